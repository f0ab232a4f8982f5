/- pick and works of the laws on package memory. -/
import Derived.Test.YtenbkdmaiooldaaMemF
namespace Go.Proofs.Ytenbkdmaiooldaa
open Go.RowKit Go.Cl
open Go.Maps (Keyed)
open Go.ChangeMaps (setBlock)
set_option linter.unusedVariables false
set_option linter.unusedSimpArgs false
attribute [local go_sem] lt_add_one' blk_alloc_past blk_alloc_at blk_drew blk_setCell_ne blk_setBlock_ne blk_setBlock_eq cell_setBlock_ne frozen_setBlock_ne size_setBlock

def pickI (c n : Int) : Int := if c < 0 then (-(c + 1)) % n else c % n
theorem pickI_bd (c n : Int) (h : 0 < n) : 0 ≤ pickI c n ∧ pickI c n < n := by
  unfold pickI
  split
  · exact ⟨Int.emod_nonneg _ (by omega), Int.emod_lt_of_pos _ h⟩
  · exact ⟨Int.emod_nonneg _ (by omega), Int.emod_lt_of_pos _ h⟩

def I64 (c : Int) : Prop := -9223372036854775808 ≤ c ∧ c ≤ 9223372036854775807

theorem pick_any (c n : Int) (hc : I64 c) (hn : 1 ≤ n) (hn2 : n ≤ 1000000000) (w : World) :
    Calls Try.prog 14 #[.int .i64 c, .int .i64 n] w fun e w' => e = .returned (.int .i64 (pickI c n)) ∧ w' = w := by
  obtain ⟨hc1, hc2⟩ := hc
  by_cases hlt : c < 0
  · have e1 : (-(c + 1)).tmod n = (-(c + 1)) % n := Int.tmod_eq_emod_of_nonneg (by omega)
    have e2 : pickI c n = (-(c + 1)) % n := by simp [pickI, hlt]
    rw [e2, ← e1]
    clear e1 e2
    go_enter Try.func14, Try.ntmps14
    go_wp2
    go_ret
    simp
  · have e2 : pickI c n = c % n := by simp [pickI, hlt]
    rw [e2]
    clear e2
    go_enter Try.func14, Try.ntmps14
    go_wp2
    go_ret
    simp

theorem pick6_any (c n : Int) (hc : I64 c) (hn : 1 ≤ n) (hn2 : n ≤ 1000000000) (w : World) :
    Calls Try.prog 18 #[.int .i64 c, .int .i64 n] w fun e w' => e = .returned (.int .i64 (pickI c n)) ∧ w' = w := by
  obtain ⟨hc1, hc2⟩ := hc
  by_cases hlt : c < 0
  · have e1 : (-(c + 1)).tmod n = (-(c + 1)) % n := Int.tmod_eq_emod_of_nonneg (by omega)
    have e2 : pickI c n = (-(c + 1)) % n := by simp [pickI, hlt]
    rw [e2, ← e1]
    clear e1 e2
    go_enter Try.func18, Try.ntmps18
    go_wp2
    go_ret
    simp
  · have e2 : pickI c n = c % n := by simp [pickI, hlt]
    rw [e2]
    clear e2
    go_enter Try.func18, Try.ntmps18
    go_wp2
    go_ret
    simp

set_option maxHeartbeats 1000000 in
set_option maxRecDepth 100000 in
theorem works_ok (w : World) : Calls Try.prog 12 #[] w fun e w' => e = .returned (.bool true) ∧ Chg (fun _ => False) w w' := by
  go_enter Try.func12, Try.ntmps12
  go_wp2_with fail
  refine (new_ok 1 (by omega) (by omega) w).mono ?_
  rintro e w1 ⟨b, m, rfl, h1, hb, hm, g1⟩
  have B0 := Lib.hid (And.intro hb hm)
  have H1 := Lib.hid h1
  have G1 := Lib.hid g1
  clear h1 g1 hb hm
  unfold ptrV
  go_wp2_with fail
  refine (store_ok H1.out (a := 0) (n := 4) (v := 67305985) (by omega) (by omega) (by decide)).mono ?_
  rintro e w2 ⟨rfl, pg, h2, g2, f2⟩
  have H2 := Lib.hid h2
  have G2 := Lib.hid (G1.out.trans (S := fun _ => False) g2 (by
    rintro i hi (rfl | rfl | h)
    · have := B0.out; omega
    · have := B0.out; omega
    · simp at h))
  clear h2 g2 f2
  go_wp2_with fail
  refine (load_ok H2.out (a := 0) (n := 1) (by omega) (by decide)).mono ?_
  rintro e w3 ⟨rfl, g3⟩
  have e3 : wordOf (fun j => put (fun _ => 0) 0 4 (byteOf 67305985) (0 + j)) 1 = 1 := by decide
  rw [e3]
  have H3 := Lib.hid (H2.out.frame g3 fun _ _ => id)
  have G3 := Lib.hid (G2.out.trans g3 fun _ _ => id)
  clear g3 e3
  go_wp2_with fail
  refine (load_ok H3.out (a := 2) (n := 2) (by omega) (by decide)).mono ?_
  rintro e w4 ⟨rfl, g4⟩
  have e4 : wordOf (fun j => put (fun _ => 0) 0 4 (byteOf 67305985) (2 + j)) 2 = 1027 := by decide
  rw [e4]
  have H4 := Lib.hid (H3.out.frame g4 fun _ _ => id)
  have G4 := Lib.hid (G3.out.trans g4 fun _ _ => id)
  clear g4 e4
  go_wp2_with fail
  refine (load_bad H4.out (a := 1) (n := 2) (by omega) (by omega) (by decide)).mono ?_
  rintro e w5 ⟨rfl, rfl⟩
  have e5 : wordE 1 1 2 = 21 := by decide
  rw [e5]
  clear e5
  go_wp2
  go_ret
  exact ⟨rfl, G4.out⟩
end Go.Proofs.Ytenbkdmaiooldaa
