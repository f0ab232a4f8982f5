/- The law's world: Take of both arenas. No condition. -/
import Derived.Test.YtenbkdmaiooldaaArnJ
namespace Go.Proofs.Ytenbkdmaiooldaa
open Go.RowKit Go.Cl
set_option linter.unusedVariables false
set_option linter.unusedSimpArgs false

theorem StG.x {P Q : List Thing → Prop} {bs : Nat} {w : World} {X b n mp : Nat} {p q : Option (Nat × Nat)} {L : List Thing} (h : StG P Q bs w X b n mp p q L) : blk w X = some (wO b n p q) := by
  obtain ⟨m, pg, R, qs, f, Lp, Lq, -, -, -, -, -, h6⟩ := h
  exact h6.all (blkT X (wO b n p q)) (by simp)
/-- Both take: the same answer. -/
theorem StG.take {bs : Nat} {w : World} {X b n mp a r : Nat} {q : Option (Nat × Nat)} {L : List Thing} (h : St bs w X b n mp (some (a, r)) q L) (hbs : bs ≤ w.heap.size) : ∃ x y : Int, Calls Try.prog 20 #[.pointer (some ⟨a, 0, none⟩)] w fun e w1 => e = .returned (.tuple #[.int .u32 x, .int .i64 y]) ∧ blk w1 X = some (wO b n (some (a, r)) q) ∧ Chg (fun i => bs ≤ i) w w1 ∧
    Calls Try.prog 52 #[.pointer (some ⟨r, 0, none⟩)] w1 fun e w2 => e = .returned (.tuple #[.int .u32 x, .int .i64 y]) ∧ St bs w2 X b n mp (some (a, r)) q L ∧ Chg (fun i => bs ≤ i) w1 w2 := by
  have h0 := h
  obtain ⟨m, pg, R, qs, f, Lp, Lq, ⟨base, pages, taken, sealed, hok, rfl⟩, h2, h3, h4, h5, h6⟩ := h
  have hm : MemIs w b m pg mp f := h6.all (memT b m pg mp f) (by simp)
  have ha : ArnIs w a b base pages taken sealed := h6.all (blkT a (arO b base pages taken sealed)) (by simp)
  have hr : RArnIs w r n base pages taken sealed := h6.all (blkT r (rarO n base pages taken sealed)) (by simp)
  have quiet : ∀ w1, Chg (fun _ => False) w w1 → blk w1 X = some (wO b n (some (a, r)) q) ∧ Chg (fun i => bs ≤ i) w w1 := fun w1 hc => ⟨hc.blk' h0.x id, hc.mono fun (i : Nat) _ (h : False) => (show bs ≤ i from h.elim)⟩
  cases sealed with
  | true =>
    refine ⟨0, 62, (arn_take_sealed ha).mono fun e w1 he => ?_⟩
    obtain ⟨rfl, rfl⟩ := he
    refine ⟨rfl, (quiet w (Chg.refl _ _)).1, (quiet w (Chg.refl _ _)).2, (raTake_sealed hr).mono fun e w2 he => ?_⟩
    obtain ⟨rfl, rfl⟩ := he
    exact ⟨rfl, h0, Chg.refl _ _⟩
  | false =>
    obtain ⟨o1, o2, o3, o4, o5⟩ := hok
    by_cases hf : taken = pages
    · subst hf
      refine ⟨0, 61, (arn_take_full ha).mono fun e w1 he => ?_⟩
      obtain ⟨rfl, hc⟩ := he
      refine ⟨rfl, (quiet w1 hc).1, (quiet w1 hc).2, (raTake_full (hr.frame hc id) (Nat.le_refl _)).mono fun e w2 he => ?_⟩
      obtain ⟨rfl, hc2⟩ := he
      exact ⟨rfl, (h0.still hc).still hc2, hc2.mono fun (i : Nat) _ (h : False) => (show bs ≤ i from h.elim)⟩
    · refine ⟨(base : Int) + taken * 4096, 0, (arn_take_ok ha hm (by omega) o5).mono fun e w1 he => ?_⟩
      obtain ⟨rfl, ha1, pg1, hm1, hc1, hf1⟩ := he
      have p1 := h6.perm (show List.Perm _ (memT b m pg mp f :: blkT a (arO b base pages taken false) :: (refT bs n R qs f :: blkT X (wO b n (some (a, r)) q) :: blkT r (rarO n base pages taken false) :: (Lq ++ L))) from .cons _ (List.perm_middle (l₁ := [_, _])))
      have s1 := p1.put2 (t' := memT b m pg1 mp (put f (base + taken * 4096) 4096 fun _ => 0)) (u' := blkT a (arO b base pages (taken + 1) false)) hbs hc1 (fun i _ hi => hi) hm1 ha1 hf1 (fun i hi => hi)
      have c1 : Chg (fun i => bs ≤ i) w w1 := hc1.mono fun i _ hi => hi.elim (fun e => p1.above (memT b m pg mp f) (by simp) i e) fun e => p1.above (blkT a (arO b base pages taken false)) (by simp) i e
      have p2 := s1.perm (show List.Perm _ (refT bs n R qs f :: blkT r (rarO n base pages taken false) :: (memT b m pg1 mp (put f (base + taken * 4096) 4096 fun _ => 0) :: blkT a (arO b base pages (taken + 1) false) :: blkT X (wO b n (some (a, r)) q) :: (Lq ++ L))) from (List.perm_middle (l₁ := [_, _])).trans (.cons _ (List.perm_middle (l₁ := [_, _, _]))))
      have hr1 : RefIs w1 bs n R qs f := p2.all (refT bs n R qs f) (by simp)
      have hrr1 : RArnIs w1 r n base pages taken false := p2.all (blkT r (rarO n base pages taken false)) (by simp)
      have hna : ¬ RefFoot n R qs r := fun e => (List.pairwise_cons.1 p2.apart).1 (blkT r (rarO n base pages taken false)) (by simp) r e rfl
      have hb1 := Nat.le_trans hbs hc1.size
      refine ⟨rfl, p2.all (blkT X (wO b n (some (a, r)) q)) (by simp), c1, (raTake_ok hrr1 hr1 hb1 hna (by omega) o4 (by rw [h3]; exact o5)).mono fun e w2 he => ?_⟩
      obtain ⟨rfl, hra2, qs2, hr2, hl2, hc2, hf2⟩ := he
      have s2 := p2.put2 (t' := refT bs n R qs2 (put f (base + taken * 4096) 4096 fun _ => 0)) (u' := blkT r (rarO n base pages (taken + 1) false)) hb1 hc2 (fun i _ hi => hi) hr2 hra2 hf2 (fun i hi => hi)
      refine ⟨rfl, ⟨m, pg1, R, qs2, put f (base + taken * 4096) 4096 fun _ => 0, [blkT a (arO b base pages (taken + 1) false), blkT r (rarO n base pages (taken + 1) false)], Lq, ⟨base, pages, taken + 1, false, ⟨o1, o2, by omega, o4, o5⟩, rfl⟩, h2, hl2.trans h3, h4, h5, s2.perm ?_⟩, hc2.mono fun i _ hi => hi.elim (fun e => p2.above (refT bs n R qs f) (by simp) i e) fun e => p2.above (blkT r (rarO n base pages taken false)) (by simp) i e⟩
      -- [ref, r, mem, a, X] ~ [mem, ref, X, a, r]
      refine (List.perm_middle (l₁ := [_, _])).trans (.cons _ (.cons _ ?_))
      exact (List.perm_middle (l₁ := [_, _])).trans (.cons _ (List.Perm.swap _ _ _))

/-- Both give a page. -/
theorem StG.take1 {Q : List Thing → Prop} {bs : Nat} {w : World} {X b n mp a r base pages taken : Nat} {q : Option (Nat × Nat)} {L : List Thing} (h : StG (ArL a r b n base pages taken) Q bs w X b n mp (some (a, r)) q L) (hok : PairOk mp base pages taken) (ht : taken < pages) (hbs : bs ≤ w.heap.size) : ∃ x y : Int, Calls Try.prog 20 #[.pointer (some ⟨a, 0, none⟩)] w fun e w1 => e = .returned (.tuple #[.int .u32 x, .int .i64 y]) ∧ blk w1 X = some (wO b n (some (a, r)) q) ∧ Chg (fun i => bs ≤ i) w w1 ∧
    Calls Try.prog 52 #[.pointer (some ⟨r, 0, none⟩)] w1 fun e w2 => e = .returned (.tuple #[.int .u32 x, .int .i64 y]) ∧ StG (ArL a r b n base pages (taken + 1)) Q bs w2 X b n mp (some (a, r)) q L ∧ Chg (fun i => bs ≤ i) w1 w2 := by
  have h0 := h
  obtain ⟨m, pg, R, qs, f, Lp, Lq, h1, h2, h3, h4, h5, h6⟩ := h
  obtain rfl : Lp = _ := h1
  obtain ⟨o1, o2, o3, o4, o5⟩ := hok
  have hm : MemIs w b m pg mp f := h6.all (memT b m pg mp f) (by simp)
  have ha : ArnIs w a b base pages taken false := h6.all (blkT a (arO b base pages taken false)) (by simp)
  have hr : RArnIs w r n base pages taken false := h6.all (blkT r (rarO n base pages taken false)) (by simp)
  refine ⟨(base : Int) + taken * 4096, 0, (arn_take_ok ha hm ht o5).mono fun e w1 he => ?_⟩
  obtain ⟨rfl, ha1, pg1, hm1, hc1, hf1⟩ := he
  have p1 := h6.perm (show List.Perm _ (memT b m pg mp f :: blkT a (arO b base pages taken false) :: (refT bs n R qs f :: blkT X (wO b n (some (a, r)) q) :: blkT r (rarO n base pages taken false) :: (Lq ++ L))) from .cons _ (List.perm_middle (l₁ := [_, _])))
  have s1 := p1.put2 (t' := memT b m pg1 mp (put f (base + taken * 4096) 4096 fun _ => 0)) (u' := blkT a (arO b base pages (taken + 1) false)) hbs hc1 (fun i _ hi => hi) hm1 ha1 hf1 (fun i hi => hi)
  have c1 : Chg (fun i => bs ≤ i) w w1 := hc1.mono fun i _ hi => hi.elim (fun e => p1.above (memT b m pg mp f) (by simp) i e) fun e => p1.above (blkT a (arO b base pages taken false)) (by simp) i e
  have p2 := s1.perm (show List.Perm _ (refT bs n R qs f :: blkT r (rarO n base pages taken false) :: (memT b m pg1 mp (put f (base + taken * 4096) 4096 fun _ => 0) :: blkT a (arO b base pages (taken + 1) false) :: blkT X (wO b n (some (a, r)) q) :: (Lq ++ L))) from (List.perm_middle (l₁ := [_, _])).trans (.cons _ (List.perm_middle (l₁ := [_, _, _]))))
  have hr1 : RefIs w1 bs n R qs f := p2.all (refT bs n R qs f) (by simp)
  have hrr1 : RArnIs w1 r n base pages taken false := p2.all (blkT r (rarO n base pages taken false)) (by simp)
  have hna : ¬ RefFoot n R qs r := fun e => (List.pairwise_cons.1 p2.apart).1 (blkT r (rarO n base pages taken false)) (by simp) r e rfl
  have hb1 := Nat.le_trans hbs hc1.size
  refine ⟨rfl, p2.all (blkT X (wO b n (some (a, r)) q)) (by simp), c1, (raTake_ok hrr1 hr1 hb1 hna ht o4 (by rw [h3]; exact o5)).mono fun e w2 he => ?_⟩
  obtain ⟨rfl, hra2, qs2, hr2, hl2, hc2, hf2⟩ := he
  have s2 := p2.put2 (t' := refT bs n R qs2 (put f (base + taken * 4096) 4096 fun _ => 0)) (u' := blkT r (rarO n base pages (taken + 1) false)) hb1 hc2 (fun i _ hi => hi) hr2 hra2 hf2 (fun i hi => hi)
  refine ⟨rfl, ⟨m, pg1, R, qs2, put f (base + taken * 4096) 4096 fun _ => 0, [blkT a (arO b base pages (taken + 1) false), blkT r (rarO n base pages (taken + 1) false)], Lq, rfl, h2, hl2.trans h3, h4, h5, s2.perm ?_⟩, hc2.mono fun i _ hi => hi.elim (fun e => p2.above (refT bs n R qs f) (by simp) i e) fun e => p2.above (blkT r (rarO n base pages taken false)) (by simp) i e⟩
  -- [ref, r, mem, a, X] ~ [mem, ref, X, a, r]
  refine (List.perm_middle (l₁ := [_, _])).trans (.cons _ (.cons _ ?_))
  exact (List.perm_middle (l₁ := [_, _])).trans (.cons _ (List.Perm.swap _ _ _))

/-- Both are sealed. -/
theorem StG.seal {bs : Nat} {w : World} {X b n mp a r : Nat} {q : Option (Nat × Nat)} {L : List Thing} (h : St bs w X b n mp (some (a, r)) q L) (hbs : bs ≤ w.heap.size) : Calls Try.prog 32 #[.pointer (some ⟨a, 0, none⟩)] w fun e w1 => e = .returned (.tuple #[]) ∧ blk w1 X = some (wO b n (some (a, r)) q) ∧ Chg (fun i => bs ≤ i) w w1 ∧
    Calls Try.prog 53 #[.pointer (some ⟨r, 0, none⟩)] w1 fun e w2 => e = .returned (.tuple #[]) ∧ St bs w2 X b n mp (some (a, r)) q L ∧ Chg (fun i => bs ≤ i) w1 w2 := by
  obtain ⟨m, pg, R, qs, f, Lp, Lq, ⟨base, pages, taken, sealed, hok, rfl⟩, h2, h3, h4, h5, h6⟩ := h
  have ha : ArnIs w a b base pages taken sealed := h6.all (blkT a (arO b base pages taken sealed)) (by simp)
  refine (arn_seal ha).mono fun e w1 he => ?_
  obtain ⟨rfl, ha1, hc1⟩ := he
  have s1 := h6.putAt (t := blkT a (arO b base pages taken sealed)) (t' := blkT a (arO b base pages taken true)) (B := blkT r (rarO n base pages taken sealed) :: (Lq ++ L)) [_, _, _] hbs hc1 (fun i _ hi => hi) ha1 (fun i hi => .inl hi)
  have hr1 : RArnIs w1 r n base pages taken sealed := s1.all (blkT r (rarO n base pages taken sealed)) (by simp)
  refine ⟨rfl, s1.all (blkT X (wO b n (some (a, r)) q)) (by simp), hc1.mono fun i _ hi => h6.above (blkT a (arO b base pages taken sealed)) (by simp) i hi, (raSeal_ok hr1).mono fun e w2 he => ?_⟩
  obtain ⟨rfl, hr2, hc2⟩ := he
  have s2 := Go.Cl.Sep.putAt (t := blkT r (rarO n base pages taken sealed)) (t' := blkT r (rarO n base pages taken true)) (B := Lq ++ L) [memT b m pg mp f, refT bs n R qs f, blkT X (wO b n (some (a, r)) q), blkT a (arO b base pages taken true)] s1 (Nat.le_trans hbs hc1.size) hc2 (fun i _ hi => hi) hr2 (fun i hi => .inl hi)
  exact ⟨rfl, ⟨m, pg, R, qs, f, [blkT a (arO b base pages taken true), blkT r (rarO n base pages taken true)], Lq, ⟨base, pages, taken, true, hok, rfl⟩, h2, h3, h4, h5, s2⟩, hc2.mono fun i _ hi => s1.above (blkT r (rarO n base pages taken sealed)) (by simp) i hi⟩

/-- Both memories are filled, or neither. -/
theorem StG.fill {P Q : List Thing → Prop} {bs : Nat} {w : World} {X b n mp : Nat} {p q : Option (Nat × Nat)} {L : List Thing} (h : StG P Q bs w X b n mp p q L) (hbs : bs ≤ w.heap.size) {addr : Nat} (hat : addr < 4294967296) {x : Int} (hx : 0 ≤ x ∧ x ≤ 255) : Calls Try.prog 35 #[ptrV b, .int .u32 addr, .int .i64 3, .int .u8 x] w fun e w1 => (∃ v, e = .returned (.int .i64 v)) ∧ blk w1 X = some (wO b n p q) ∧ (∀ t ∈ L, t.holds w1) ∧ Chg (fun i => bs ≤ i) w w1 ∧
    ∀ wy, Chg (fun _ => False) w1 wy → Calls Try.prog 54 #[.pointer (some ⟨n, 0, none⟩), .int .u32 addr, .int .i64 3, .int .u8 x] wy fun e w2 => (∃ v, e = .returned (.int .i64 v)) ∧ StG P Q bs w2 X b n mp p q L ∧ Chg (fun i => bs ≤ i) wy w2 := by
  have h0 := h
  obtain ⟨m, pg, R, qs, f, Lp, Lq, h1, h2, h3, h4, h5, h6⟩ := h
  have hm : MemIs w b m pg mp f := h6.all (memT b m pg mp f) (by simp)
  have hr : RefIs w bs n R qs f := h6.all (refT bs n R qs f) (by simp)
  by_cases hE : placeE mp addr 3 = 0
  · have hle : addr + 3 ≤ mp * 4096 := by have := placeE_zero hE; omega
    refine (fill_ok (a := addr) (n := 3) hm hx hle).mono fun e w1 he => ?_
    obtain ⟨rfl, pg1, hm1, hc1, hf1⟩ := he
    have s1 := h6.put hbs hc1 (fun i _ hi => hi) (t' := memT b m pg1 mp (put f addr 3 fun _ => x)) hm1 hf1
    refine ⟨⟨_, rfl⟩, s1.all (blkT X (wO b n p q)) (by simp), fun t ht => s1.all t (by simp [ht]), hc1.mono fun i _ hi => h6.above (memT b m pg mp f) (by simp) i hi, fun wy hcy => ?_⟩
    have s1 := s1.frame hcy
    have hr1 : RefIs wy bs n R qs f := s1.all (refT bs n R qs f) (by simp)
    have hb1 := Nat.le_trans (Nat.le_trans hbs hc1.size) hcy.size
    refine (rFill_ok (a := addr) (n := 3) hr1 hb1 (by rw [h3]; exact hle) hx).mono fun e w2 he => ?_
    obtain ⟨rfl, qs2, hr2, hl2, hc2, hf2⟩ := he
    have s2 := s1.putAt (t' := refT bs n R qs2 (put f addr 3 fun _ => x)) [memT b m pg1 mp (put f addr 3 fun _ => x)] hb1 hc2 (fun i _ hi => hi) hr2 hf2
    exact ⟨⟨_, rfl⟩, ⟨m, pg1, R, qs2, put f addr 3 fun _ => x, Lp, Lq, h1, h2, hl2.trans h3, h4, h5, s2⟩, hc2.mono fun i _ hi => s1.above (refT bs n R qs f) (by simp) i hi⟩
  · refine (fill_bad (a := addr) (n := 3) hm (by omega) (by omega) (by omega) hE).mono fun e w1 he => ?_
    obtain ⟨rfl, rfl⟩ := he
    refine ⟨⟨_, rfl⟩, h0.x, fun t ht => h6.all t (by simp [ht]), Chg.refl _ _, fun wy hcy => (rFill_bad (a := addr) (n := 3) (hr.frame hcy fun _ _ => id) (by omega) (by omega) (by omega) (by rw [h3]; exact hE)).mono fun e w2 he => ?_⟩
    obtain ⟨rfl, rfl⟩ := he
    exact ⟨⟨_, rfl⟩, h0.still hcy, Chg.refl _ _⟩
end Go.Proofs.Ytenbkdmaiooldaa
