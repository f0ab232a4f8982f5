/- The law's world: contract of step, all cases. No condition. -/
import Derived.Test.YtenbkdmaiooldaaArnM
namespace Go.Proofs.Ytenbkdmaiooldaa
open Go.RowKit Go.Cl
set_option linter.unusedVariables false
set_option linter.unusedSimpArgs false
attribute [local go_sem] lt_add_one' blk_alloc_past blk_alloc_at blk_drew blk_setCell_ne

theorem pick6_cases (kd : Int) : pickI kd 6 = 0 ∨ pickI kd 6 = 1 ∨ pickI kd 6 = 2 ∨ pickI kd 6 = 3 ∨ pickI kd 6 = 4 ∨ pickI kd 6 = 5 := by
  have := pickI_bd kd 6 (by omega)
  omega
theorem step_not5 {bs : Nat} {w : World} {X b n mp a r : Nat} {q : Option (Nat × Nat)} {L : List Thing} (h : St bs w X b n mp (some (a, r)) q L) (hbs : bs ≤ w.heap.size) (kd pg : Int) (hkd : I64 kd) (hpg : I64 pg) (hk : pickI kd 6 ≠ 5) (at_ base : Nat) (hat : at_ < 4294967296) (hba : base < 4294967296) (bt : Int) (hbt : 0 ≤ bt ∧ bt ≤ 255) :
    Calls Try.prog 27 #[.pointer (some ⟨X, 0, none⟩), .agg #[.int .i64 kd, .int .i64 pg, .bool false, .int .u32 at_, .int .u32 base, .int .u8 bt]] w (Kept (Pr mp b n (some (a, r))) (Pr mp b n q) bs w X b n mp (some (a, r)) q L) := by
  rcases pick6_cases kd with h0 | h0 | h0 | h0 | h0 | h0
  · exact step_0 h hbs kd pg hkd hpg h0 at_ base hat hba bt hbt
  · exact step_1 h hbs kd pg hkd hpg h0 at_ base hat hba bt hbt
  · exact step_2 h hbs kd pg hkd hpg h0 at_ base hat hba bt hbt
  · exact step_3 h hbs kd pg hkd hpg h0 at_ base hat hba bt hbt
  · exact step_4 h hbs kd pg hkd hpg h0 at_ base hat hba bt hbt
  · exact absurd h0 hk
theorem step_new {bs : Nat} {w : World} {X b n mp a r : Nat} {q : Option (Nat × Nat)} {L : List Thing} (h : St bs w X b n mp (some (a, r)) q L) (hbs : bs ≤ w.heap.size) (kd pg : Int) (hkd : I64 kd) (hpg : I64 pg) (at_ base : Nat) (hat : at_ < 4294967296) (hba : base < 4294967296) (bt : Int) (hbt : 0 ≤ bt ∧ bt ≤ 255) :
    Calls Try.prog 27 #[.pointer (some ⟨X, 0, none⟩), .agg #[.int .i64 kd, .int .i64 pg, .bool false, .int .u32 at_, .int .u32 base, .int .u8 bt]] w (Stepd bs w X b n mp q L) := by
  by_cases h5 : pickI kd 6 = 5
  · exact step_5 h hbs kd pg hkd hpg h5 at_ base hat hba bt hbt
  · exact (step_not5 h hbs kd pg hkd hpg h5 at_ base hat hba bt hbt).mono fun e w' hk => hk.stepd
theorem step_none {bs : Nat} {w : World} {X b n mp a r : Nat} {L : List Thing} (h : St bs w X b n mp (some (a, r)) none L) (hbs : bs ≤ w.heap.size) (kd pg : Int) (hkd : I64 kd) (hpg : I64 pg) (at_ base : Nat) (hat : at_ < 4294967296) (hba : base < 4294967296) (bt : Int) (hbt : 0 ≤ bt ∧ bt ≤ 255) :
    Calls Try.prog 27 #[.pointer (some ⟨X, 0, none⟩), .agg #[.int .i64 kd, .int .i64 pg, .bool true, .int .u32 at_, .int .u32 base, .int .u8 bt]] w (Stepd bs w X b n mp none L) := by
  rcases pick6_cases kd with h0 | h0 | h0 | h0 | h0 | h0
  · exact (stepO_0 h hbs kd pg hkd hpg h0 at_ base hat hba bt hbt).mono fun e w' hk => hk.stepd
  · exact (stepO_1 h hbs kd pg hkd hpg h0 at_ base hat hba bt hbt).mono fun e w' hk => hk.stepd
  · exact (stepO_2 h hbs kd pg hkd hpg h0 at_ base hat hba bt hbt).mono fun e w' hk => hk.stepd
  · exact (stepO_3 h hbs kd pg hkd hpg h0 at_ base hat hba bt hbt).mono fun e w' hk => hk.stepd
  · exact (stepO_4 h hbs kd pg hkd hpg h0 at_ base hat hba bt hbt).mono fun e w' hk => hk.stepd
  · exact stepO_5 h hbs kd pg hkd hpg h0 at_ base hat hba bt hbt

/-- The first of the rest is turned. -/
theorem StG.turn {P Q : List Thing → Prop} {bs : Nat} {w w' : World} {S : Nat → Prop} {X b n mp : Nat} {p q : Option (Nat × Nat)} {L : List Thing} {u u' : Thing} (h : StG P Q bs w X b n mp p q (u :: L)) (hb : bs ≤ w.heap.size) (hc : Chg S w w') (hs : ∀ i, i < w.heap.size → S i → u.foot i) (h' : u'.holds w') (hf : ∀ i, u'.foot i → u.foot i ∨ w.heap.size ≤ i) : StG P Q bs w' X b n mp p q (u' :: L) := by
  obtain ⟨m, pg, R, qs, f, Lp, Lq, h1, h2, h3, h4, h5, h6⟩ := h
  have s := (show Go.Cl.Sep bs w ((memT b m pg mp f :: refT bs n R qs f :: blkT X (wO b n p q) :: (Lp ++ Lq)) ++ u :: L) by simpa [List.append_assoc] using h6).putAt _ hb hc hs h' hf
  exact ⟨m, pg, R, qs, f, Lp, Lq, h1, h2, h3, h4, h5, by simpa [List.append_assoc] using s⟩
/-- Another world, of the older pair, beside it. -/
theorem StG.older {bs : Nat} {w w1 : World} {X X' b n mp : Nat} {p q : Option (Nat × Nat)} {L : List Thing} (h : St bs w X b n mp p q L) (hb : bs ≤ w.heap.size) (hc : Chg (fun _ => False) w w1) (hx : blk w1 X' = some (wO b n q none)) (hX : w.heap.size ≤ X') :
    ∃ L', St bs w1 X' b n mp q none L' ∧ (∀ w', St bs w' X' b n mp q none L' → St bs w' X b n mp p q L) ∧ (∀ t ∈ L, t ∈ L') := by
  obtain ⟨m, pg, R, qs, f, Lp, Lq, h1, h2, h3, h4, h5, h6⟩ := h
  refine ⟨blkT X (wO b n p q) :: (Lp ++ L), ⟨m, pg, R, qs, f, Lq, [], h2, rfl, h3, h4, h5, ?_⟩, fun w' h' => ?_, fun t ht => by simp [ht]⟩
  · have s := h6.pushAt (t' := blkT X' (wO b n q none)) [_, _] hb hc hx (fun i hi => by
      have hi : i = X' := hi
      omega)
    refine s.perm (.cons _ (.cons _ (.cons _ ?_)))
    show List.Perm ((blkT X (wO b n p q) :: Lp) ++ (Lq ++ L)) (Lq ++ ((blkT X (wO b n p q) :: Lp) ++ L))
    exact List.perm_append_comm_assoc _ _ _
  · obtain ⟨m', pg', R', qs', f', Lq', Ln, g1, g2, g3, g4, g5, g6⟩ := h'
    obtain rfl : Ln = [] := g2
    refine ⟨m', pg', R', qs', f', Lp, Lq', h1, g1, g3, g4, g5, ?_⟩
    have s := g6.sub ((List.sublist_cons_self _ _).cons_cons _ |>.cons_cons _)
    refine s.perm (.cons _ (.cons _ ?_))
    show List.Perm (Lq' ++ ((blkT X (wO b n p q) :: Lp) ++ L)) ((blkT X (wO b n p q) :: Lp) ++ (Lq' ++ L))
    exact List.perm_append_comm_assoc _ _ _

set_option maxHeartbeats 4000000 in
set_option maxRecDepth 100000 in
theorem step_old {bs : Nat} {w : World} {X b n mp a r a' r' : Nat} {L : List Thing} (h : St bs w X b n mp (some (a, r)) (some (a', r')) L) (hbs : bs ≤ w.heap.size) (kd pg : Int) (hkd : I64 kd) (hpg : I64 pg) (at_ base : Nat) (hat : at_ < 4294967296) (hba : base < 4294967296) (bt : Int) (hbt : 0 ≤ bt ∧ bt ≤ 255) :
    Calls Try.prog 27 #[.pointer (some ⟨X, 0, none⟩), .agg #[.int .i64 kd, .int .i64 pg, .bool true, .int .u32 at_, .int .u32 base, .int .u8 bt]] w (Kept (Pr mp b n (some (a, r))) (Pr mp b n (some (a', r'))) bs w X b n mp (some (a, r)) (some (a', r')) L) := by
  have HPK := Lib.hid (fun (wy : World) => pick6_any kd 6 hkd (by omega) (by omega) wy)
  obtain ⟨kk, hkk⟩ : ∃ kk, kk = pickI kd 6 := ⟨_, rfl⟩
  rw [← hkk] at HPK
  have HKK := Lib.hid hkk
  have HPG := Lib.hid (And.intro hkd hpg)
  have HAT := Lib.hid (And.intro hat hba)
  have HBT := Lib.hid hbt
  clear hkd hpg hkk hat hba hbt
  go_enter Try.func27, Try.ntmps27
  go_upto_region 1 with (fail)
  obtain ⟨wa, hwa⟩ : ∃ wa, wa = w.alloc (.cells #[.int .i64 kd, .int .i64 pg, .bool true, .int .u32 at_, .int .u32 base, .int .u8 bt] 54 (0, 0)) := ⟨_, rfl⟩
  obtain ⟨Y, hY⟩ : ∃ Y, Y = w.heap.size := ⟨_, rfl⟩
  have hc0 : Chg (fun _ => False) w wa := by rw [hwa]; exact (Chg.refl _ _).alloc _
  have hyb : blk wa Y = some (stO kd pg true at_ base bt) := by rw [hwa, hY]; exact blk_alloc_at _ _ _ rfl
  have hT0 := h.add (u := blkT Y (stO kd pg true at_ base bt)) hbs hc0 hyb (fun i hi => by
    have hi : i = Y := hi
    omega)
  have HT0 := Lib.hid hT0
  have HC0 := Lib.hid (show Chg (fun i => bs ≤ i) w wa from hc0.mono fun (i : Nat) _ (h : False) => h.elim)
  have HB0 := Lib.hid (Nat.le_trans hbs hc0.size)
  have HY := Lib.hid (show bs ≤ Y by omega)
  have HYB := Lib.hid hyb
  have y2 := cell_of_blk hyb 2
  have z2 := frozen_of_blk hyb 2
  have hxx := hT0.x
  unfold wO ptrO at hxx
  have x4 := cell_of_blk hxx 4
  rw [← hwa, ← hY]
  clear hwa hY hc0 hyb h hbs hxx hT0
  go_upto_region 3 with (fail)
  obtain ⟨wb, hwb⟩ : ∃ wb, wb = wa.setCell ⟨Y, 2, none⟩ (.bool false) := ⟨_, rfl⟩
  have hc1 : Chg (fun i => i = Y) wa wb := by rw [hwb]; exact (Chg.refl (fun i => i = Y) wa).setCell (p := ⟨Y, 2, none⟩) (fun _ => rfl) _
  have hyb : blk wb Y = some (stO kd pg false at_ base bt) := by
    rw [hwb, blk_setCell_eq, HYB.out]
    simp [objSet]
  have HT1 := Lib.hid (HT0.out.turn (u' := blkT Y (stO kd pg false at_ base bt)) HB0.out hc1 (fun i _ hi => hi) hyb (fun i hi => .inl hi))
  have HC1 := Lib.hid (show Chg (fun i => bs ≤ i) w wb from HC0.out.trans hc1 fun i _ hi => by rw [show i = Y from hi]; exact HY.out)
  have HB1 := Lib.hid (Nat.le_trans HB0.out hc1.size)
  have hxx := HT1.out.x
  unfold wO ptrO ptrV at hxx
  have x0 := cell_of_blk hxx 0
  have x1 := cell_of_blk hxx 1
  have x4 := cell_of_blk hxx 4
  have x5 := cell_of_blk hxx 5
  rw [← hwb]
  clear hwb hc1 hyb hxx y2 z2
  go_region
  obtain ⟨wc, hwc⟩ : ∃ wc, wc = (wb.alloc (.cells #[.pointer (some ⟨b, 0, none⟩), .pointer (some ⟨n, 0, none⟩), .pointer (some ⟨a', 0, none⟩), .pointer (some ⟨r', 0, none⟩), .pointer none, .pointer none] 50 (0, 0))).drew := ⟨_, rfl⟩
  obtain ⟨X', hX'⟩ : ∃ X', X' = wb.heap.size := ⟨_, rfl⟩
  have hc2 : Chg (fun _ => False) wb wc := by rw [hwc]; exact ((Chg.refl _ _).alloc _).drew
  have hx' : blk wc X' = some (wO b n (some (a', r')) none) := by rw [hwc, hX', blk_drew]; exact blk_alloc_at _ _ _ rfl
  obtain ⟨L', hS, hback, hin⟩ := HT1.out.older HB1.out hc2 hx' (by omega)
  have HS := Lib.hid hS
  have HBK := Lib.hid hback
  have HC2 := Lib.hid (show Chg (fun i => bs ≤ i) w wc from HC1.out.trans hc2 fun _ _ h => h.elim)
  have HB2 := Lib.hid (Nat.le_trans HB1.out hc2.size)
  have hyb : blk wc Y = some (stO kd pg false at_ base bt) := hS.mem (t := blkT Y (stO kd pg false at_ base bt)) (hin _ (by simp))
  have y0 := cell_of_blk hyb 0
  have y1 := cell_of_blk hyb 1
  have y2 := cell_of_blk hyb 2
  have y3 := cell_of_blk hyb 3
  have y4 := cell_of_blk hyb 4
  have y5 := cell_of_blk hyb 5
  rw [← hwc, ← hX']
  clear hwc hX' hc2 hx' hS hback hin hyb x0 x1 x4 x5
  by_cases h5 : kk = 5
  · subst h5
    go_wp2_with fail
    refine (HPK.out _).mono ?_
    rintro e w1 ⟨rfl, rfl⟩
    go_wp2
    go_ret
    exact ⟨rfl, (HBK.out _ HS.out).sub (List.sublist_cons_self _ _), HC2.out⟩
  · have HN := Lib.hid (step_not5 HS.out HB2.out kd pg HPG.out.1 HPG.out.2 (by rw [← HKK.out]; exact h5) at_ base HAT.out.1 HAT.out.2 bt HBT.out)
    go_wp2_with fail
    refine (HPK.out _).mono ?_
    rintro e w1 ⟨rfl, rfl⟩
    go_wp2_with fail
    refine HN.out.mono ?_
    rintro e w2 ⟨rfl, hs2, hc2⟩
    have HS2 := Lib.hid hs2
    have HC3 := Lib.hid (HC2.out.trans hc2 fun _ _ h => h)
    clear hs2 hc2 y0 y1 y2 y3 y4 y5
    go_wp2
    go_ret
    exact ⟨rfl, (HBK.out _ HS2.out).sub (List.sublist_cons_self _ _), HC3.out⟩

/-- EVERY STEP: the same answers, and the world holds on. -/
theorem step_any {bs : Nat} {w : World} {X b n mp : Nat} {p : Nat × Nat} {q : Option (Nat × Nat)} {L : List Thing} (h : St bs w X b n mp (some p) q L) (hbs : bs ≤ w.heap.size) (kd pg : Int) (hkd : I64 kd) (hpg : I64 pg) (old : Bool) (at_ base : Nat) (hat : at_ < 4294967296) (hba : base < 4294967296) (bt : Int) (hbt : 0 ≤ bt ∧ bt ≤ 255) :
    Calls Try.prog 27 #[.pointer (some ⟨X, 0, none⟩), .agg #[.int .i64 kd, .int .i64 pg, .bool old, .int .u32 at_, .int .u32 base, .int .u8 bt]] w (Stepd bs w X b n mp q L) := by
  obtain ⟨a, r⟩ := p
  cases old with
  | false => exact step_new h hbs kd pg hkd hpg at_ base hat hba bt hbt
  | true =>
    cases q with
    | none => exact step_none h hbs kd pg hkd hpg at_ base hat hba bt hbt
    | some q =>
      obtain ⟨a', r'⟩ := q
      exact (step_old h hbs kd pg hkd hpg at_ base hat hba bt hbt).mono fun e w' hk => hk.stepd
end Go.Proofs.Ytenbkdmaiooldaa
