/- Contracts of package memory's split. -/
import Derived.Test.YtenbkdmaiooldaaMemB
namespace Go.Proofs.Ytenbkdmaiooldaa
open Go.RowKit Go.Cl
open Go.Maps (Keyed)
open Go.ChangeMaps (setBlock)
set_option linter.unusedVariables false
set_option linter.unusedSimpArgs false

/-- The part that holds a place's byte. -/
def partTo (a n done : Nat) : Nat := min 4096 ((a + done) % 4096 + n - done)

set_option maxHeartbeats 1000000 in
set_option maxRecDepth 100000 in
theorem split_any (g : Nat) (eg : ∀ args (w : World), (callFunc g args).run Try.prog w = .ok (.enter g args) w) (x y : Value) (a n : Nat) (ha : a + n ≤ 16777216) (I : Nat → World → Prop)
    (hI : ∀ done w', done < n → I done w' → Calls Try.prog g #[.int .u32 ((a + done) / 4096 : Nat), .int .i64 ((a + done) % 4096 : Nat), .int .i64 (min 4096 ((a + done) % 4096 + n - done) : Nat), .int .i64 done, x, y] w' fun e w'' => e = .returned (.tuple #[]) ∧ I (done + (min 4096 ((a + done) % 4096 + n - done) - (a + done) % 4096)) w'')
    (w : World) (h0 : I 0 w) :
    Calls Try.prog 77 #[.int .u32 a, .int .i64 n, .func (.func g) #[] #[x, y]] w fun e w' => e = .returned (.tuple #[]) ∧ I n w' := by
  have HI := Lib.hid hI
  have H0 := Lib.hid h0
  clear hI h0
  go_enter Try.func77, Try.ntmps77
  go_wp2
  go_loopw [0, 6] (fun p d wr => ∃ done : Nat, done ≤ n ∧ p = .int .u32 (a + done : Nat) ∧ d = .int .i64 done ∧ I done wr) (fun _ d _ => n - (intOf d).toNat)
  case atStart => exact ⟨0, by omega, rfl, rfl, H0.out⟩
  case round =>
    obtain ⟨done, hdn, rfl, rfl, hi⟩ := hrel
    have HIW := Lib.hid hi
    clear hi
    by_cases hlt : done < n
    · have hc := HI.out done wr hlt HIW.out
      generalize hs : a + done = s at hc ⊢
      have h1 : s ≤ 16777216 := by omega
      have HS := Lib.hid hs
      clear hs
      by_cases hm : 4096 ≤ s % 4096 + n - done
      · rw [Nat.min_eq_left hm] at hc
        simp only [Int.natCast_ediv, Int.natCast_emod, Int.cast_ofNat_Int] at hc
        have q1 : ¬ ((s : Int) % 4096 + n - done < 4096) := by omega
        have q2 : (4096 : Int) ≤ (s : Int) % 4096 + n - done := by omega
        have HC := Lib.hid hc
        clear hc
        go_wp2_with fail
        refine (HC.out).mono ?_
        rintro e w' ⟨rfl, hw⟩
        have HW := Lib.hid hw
        clear hw
        go_wp2
        have hs := HS.out
        have hw := HW.out
        refine ⟨⟨done + (4096 - s % 4096), by omega, ?_, ?_, hw⟩, ?_⟩
        · congr 1
          omega
        · congr 1
          omega
        · simp only [intOf]
          omega
      · rw [Nat.min_eq_right (by omega)] at hc
        have e : ((s % 4096 + n - done : Nat) : Int) = (s : Int) % 4096 + n - done := by omega
        rw [e] at hc
        simp only [Int.natCast_ediv, Int.natCast_emod, Int.cast_ofNat_Int] at hc
        have e2 : done + (s % 4096 + n - done - s % 4096) = n := by omega
        rw [e2] at hc
        have q1 : ((s : Int) % 4096 + n - done < 4096) := by omega
        have q2 : ¬ ((4096 : Int) ≤ (s : Int) % 4096 + n - done) := by omega
        have HC := Lib.hid hc
        clear hc e e2
        go_wp2_with fail
        refine (HC.out).mono ?_
        rintro e w' ⟨rfl, hw⟩
        have HW := Lib.hid hw
        clear hw
        go_wp2
        have hs := HS.out
        have hw := HW.out
        refine ⟨⟨n, by omega, ?_, ?_, hw⟩, ?_⟩
        · congr 1
          omega
        · congr 1
          omega
        · simp only [intOf]
          omega
    · have e : done = n := by omega
      subst e
      go_wp2
      go_end0
      exact ⟨rfl, HIW.out⟩

theorem put_put (f : Nat → Int) (a d e : Nat) (bs : Nat → Int) : put (put f a d bs) (a + d) e (fun j => bs (d + j)) = put f a (d + e) bs := by
  funext x
  unfold put
  by_cases h1 : a + d ≤ x ∧ x < a + d + e
  · rw [if_pos h1, if_pos (by omega)]
    simp only
    rw [show d + (x - (a + d)) = x - a by omega]
  · rw [if_neg h1]
    by_cases h2 : a ≤ x ∧ x < a + d
    · rw [if_pos h2, if_pos (by omega)]
    · rw [if_neg h2, if_neg (by omega)]

theorem put_none (f : Nat → Int) (a : Nat) (bs : Nat → Int) : put f a 0 bs = f := by
  funext x
  unfold put
  rw [if_neg (by omega)]

/-- What a write leaves: the memory with other bytes, its new blocks new. -/
def Wrote (w w' : World) (b m : Nat) (pg : List (Nat × Nat)) (pages : Nat) (f : Nat → Int) : Prop :=
  ∃ pg', MemIs w' b m pg' pages f ∧ Chg (Foot b m pg) w w' ∧ ∀ i, Foot b m pg' i → Foot b m pg i ∨ w.heap.size ≤ i

theorem wr_any {w : World} {b m : Nat} {pg : List (Nat × Nat)} {pages : Nat} {f : Nat → Int} (h : MemIs w b m pg pages f) {x3 x5 sb so n cap : Nat} {bs : Nat → Int} (h3 : blk w x3 = some (.cells #[ptrV b] 24 (0, 0))) (h5 : blk w x5 = some (.cells #[.slice (some ⟨sb, so, none⟩) n cap] 58 (0, 0)))
    (hs : Src w sb so n bs) (hsb : ¬ Foot b m pg sb) (hnc : n ≤ cap) (hcm : cap ≤ 9223372036854775807) {k fr tt done : Nat} (hkp : k < pages) (hft : fr < tt) (ht : tt ≤ 4096) (hd : done < n) (hn : tt - fr ≤ n - done) :
    Calls Try.prog 78 #[.int .u32 k, .int .i64 fr, .int .i64 tt, .int .i64 done, .pointer (some ⟨x3, 0, none⟩), .pointer (some ⟨x5, 0, none⟩)] w fun e w' => e = .returned (.tuple #[]) ∧ Wrote w w' b m pg pages (put f (k * 4096 + fr) (tt - fr) (fun j => bs (done + j))) := by
  by_cases hin : k ∈ pg.map (·.1)
  · obtain ⟨q, hq, hqk⟩ := List.mem_map.1 hin
    obtain ⟨k', p⟩ := q
    subst hqk
    refine (wr_hit h h3 h5 hs hsb hnc hcm hq hft ht hd hn).mono ?_
    rintro e w' ⟨rfl, hm, hc⟩
    exact ⟨rfl, pg, hm, hc.mono fun i _ e => e ▸ .inr (.inr (List.mem_map.2 ⟨_, hq, rfl⟩)), fun i hi => .inl hi⟩
  · refine (wr_miss h h3 h5 hs hsb hnc hcm hin hkp hft ht hd hn).mono ?_
    rintro e w' ⟨rfl, hm, hc⟩
    refine ⟨rfl, _, hm, hc.mono fun i _ e => e ▸ .inr (.inl rfl), ?_⟩
    rintro i (hi | hi | hi)
    · exact .inl (.inl hi)
    · exact .inl (.inr (.inl hi))
    · simp only [List.map_cons, List.mem_cons] at hi
      rcases hi with hi | hi
      · exact .inr (Nat.le_of_eq hi.symm)
      · exact .inl (.inr (.inr hi))

theorem Wrote.trans {w0 w w' : World} {b m : Nat} {pg pg1 : List (Nat × Nat)} {pages : Nat} {f : Nat → Int} (hc : Chg (Foot b m pg) w0 w) (hf : ∀ i, Foot b m pg1 i → Foot b m pg i ∨ w0.heap.size ≤ i) (h : Wrote w w' b m pg1 pages f) : Wrote w0 w' b m pg pages f := by
  obtain ⟨pg', h1, h2, h3⟩ := h
  refine ⟨pg', h1, hc.trans h2 fun i hi hfi => (hf i hfi).resolve_right (by omega), fun i hi => ?_⟩
  rcases h3 i hi with h4 | h4
  · exact hf i h4
  · exact .inr (Nat.le_trans hc.size h4)

theorem write_round {w1 w' : World} {b m : Nat} {pg : List (Nat × Nat)} {pages : Nat} {f : Nat → Int} {x3 x5 sb so n cap : Nat} {bs : Nat → Int} (h3 : blk w1 x3 = some (.cells #[ptrV b] 24 (0, 0))) (h5 : blk w1 x5 = some (.cells #[.slice (some ⟨sb, so, none⟩) n cap] 58 (0, 0)))
    (hs : Src w1 sb so n bs) (hsb : ¬ Foot b m pg sb) (hn3 : ¬ Foot b m pg x3) (hn5 : ¬ Foot b m pg x5) (hnc : n ≤ cap) (hcm : cap ≤ 9223372036854775807) {a done : Nat} (ha : a + n ≤ pages * 4096) (hp : pages ≤ 4096) (hd : done < n) (h : Wrote w1 w' b m pg pages (put f a done bs)) :
    Calls Try.prog 78 #[.int .u32 ((a + done) / 4096 : Nat), .int .i64 ((a + done) % 4096 : Nat), .int .i64 (min 4096 ((a + done) % 4096 + n - done) : Nat), .int .i64 done, .pointer (some ⟨x3, 0, none⟩), .pointer (some ⟨x5, 0, none⟩)] w' fun e w'' =>
      e = .returned (.tuple #[]) ∧ Wrote w1 w'' b m pg pages (put f a (done + (min 4096 ((a + done) % 4096 + n - done) - (a + done) % 4096)) bs) := by
  obtain ⟨pg1, hm, hc, hf⟩ := h
  have lsb : sb < w1.heap.size := World.block_lt_of_cell? _ _ (hs 0 (by omega)).1
  have hsb1 : ¬ Foot b m pg1 sb := fun e => (hf _ e).elim hsb fun e => by omega
  have hlt : (a + done) % 4096 < 4096 := Nat.mod_lt _ (by omega)
  have hmin : (a + done) % 4096 < min 4096 ((a + done) % 4096 + n - done) := by
    rw [Nat.lt_min]
    omega
  have hmin1 : min 4096 ((a + done) % 4096 + n - done) ≤ 4096 := Nat.min_le_left _ _
  have hmin2 : min 4096 ((a + done) % 4096 + n - done) ≤ (a + done) % 4096 + n - done := Nat.min_le_right _ _
  refine (wr_any hm (hc.blk' h3 hn3) (hc.blk' h5 hn5) (hs.frame hc hsb) hsb1 hnc hcm (k := (a + done) / 4096) (by omega) hmin hmin1 hd (by omega)).mono ?_
  rintro e w'' ⟨rfl, hw⟩
  refine ⟨rfl, Wrote.trans hc hf ?_⟩
  rw [show (a + done) / 4096 * 4096 + (a + done) % 4096 = a + done by omega, put_put] at hw
  exact hw

set_option maxHeartbeats 1000000 in
set_option maxRecDepth 100000 in
/-- Bytes laid at a place. -/
theorem write_ok {w : World} {b m : Nat} {pg : List (Nat × Nat)} {pages : Nat} {f : Nat → Int} (h : MemIs w b m pg pages f) {sb so n cap : Nat} {bs : Nat → Int}
    (hs : Src w sb so n bs) (hsb : ¬ Foot b m pg sb) (h0n : 0 < n) (hnc : n ≤ cap) (hcm : cap ≤ 9223372036854775807) {a : Nat} (ha : a + n ≤ pages * 4096) :
    Calls Try.prog 49 #[ptrV b, .int .u32 a, .slice (some ⟨sb, so, none⟩) n cap] w fun e w' => e = .returned (.tuple #[]) ∧ Wrote w w' b m pg pages (put f a n bs) := by
  have hp := h.size
  have hnm : n ≤ 9223372036854775807 := by omega
  have lsb : sb < w.heap.size := World.block_lt_of_cell? _ _ (hs 0 h0n).1
  have H := Lib.hid h
  have HS := Lib.hid hs
  have HB := Lib.hid hsb
  clear h hs hsb
  unfold ptrV
  go_enter Try.func49, Try.ntmps49
  go_wp2_with fail
  have hl0 : ∀ i, Foot b m pg i → i < w.heap.size := H.out.lt
  have hcW : Chg (fun _ => False) w ((w.alloc (.cells #[.pointer (some ⟨b, 0, none⟩)] 24 (0, 0))).alloc (.cells #[.slice (some ⟨sb, so, none⟩) n cap] 58 (0, 0))) := ((Chg.refl _ _).alloc _).alloc _
  have h3 : blk ((w.alloc (.cells #[.pointer (some ⟨b, 0, none⟩)] 24 (0, 0))).alloc (.cells #[.slice (some ⟨sb, so, none⟩) n cap] 58 (0, 0))) w.heap.size = some (.cells #[ptrV b] 24 (0, 0)) := by
    rw [blk_alloc_past _ _ _ (by simp), blk_alloc_at _ _ _ rfl]
    rfl
  have h5 : blk ((w.alloc (.cells #[.pointer (some ⟨b, 0, none⟩)] 24 (0, 0))).alloc (.cells #[.slice (some ⟨sb, so, none⟩) n cap] 58 (0, 0))) (w.heap.size + 1) = some (.cells #[.slice (some ⟨sb, so, none⟩) n cap] 58 (0, 0)) := blk_alloc_at _ _ _ (by simp)
  have hW : Wrote ((w.alloc (.cells #[.pointer (some ⟨b, 0, none⟩)] 24 (0, 0))).alloc (.cells #[.slice (some ⟨sb, so, none⟩) n cap] 58 (0, 0))) ((w.alloc (.cells #[.pointer (some ⟨b, 0, none⟩)] 24 (0, 0))).alloc (.cells #[.slice (some ⟨sb, so, none⟩) n cap] 58 (0, 0))) b m pg pages (put f a 0 bs) := by
    rw [put_none]
    exact ⟨pg, H.out.frame hcW (fun _ _ => id), Chg.refl _ _, fun i hi => .inl hi⟩
  refine (split_any 78 (fun _ _ => rfl) _ _ a n (by omega) (fun done w' => Wrote _ w' b m pg pages (put f a done bs)) (fun done w' hd hI => write_round h3 h5 (HS.out.frame hcW id) HB.out (fun e => by have := hl0 _ e; omega) (fun e => by have := hl0 _ e; omega) hnc hcm ha hp.2 hd hI) _ hW).mono ?_
  rintro e w' ⟨rfl, hw⟩
  have HW := Lib.hid hw
  have HC := Lib.hid hcW
  clear hw h3 h5 hW hcW hl0
  go_wp2
  go_end0
  obtain ⟨pg', k1, k2, k3⟩ := HW.out
  exact ⟨rfl, pg', k1, HC.out.step k2 (fun _ _ h => h.elim) fun _ _ h => h, fun i hi => (k3 i hi).imp id fun h => Nat.le_trans HC.out.size h⟩
end Go.Proofs.Ytenbkdmaiooldaa
