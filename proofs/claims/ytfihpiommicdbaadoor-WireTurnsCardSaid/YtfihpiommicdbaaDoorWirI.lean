/- The laws' 'known': the sum of the nine digits; a writer and a reader of one Word. No condition but the table's place. -/
import Derived.Test.YtfihpiommicdbaaDoorWirH
import Derived.Lib.SlBytesConst
namespace Go.Proofs.YtfihpiommicdbaaDoor
open Go.RowKit Go.Cl
set_option linter.unusedVariables false
set_option linter.unusedSimpArgs false
attribute [local go_sem] lt_add_one' blk_alloc_past blk_alloc_at blk_drew blk_setCell_ne

def nine : List Int := [49, 50, 51, 52, 53, 54, 55, 56, 57]
theorem nine_sum : sumI nine = 3421780262 := by decide +kernel
theorem block_bytes {w : World} {g : Nat} {xs : List Int} {e : TypeId} {fr : Nat × Nat} (h : blk w g = some (.cells (xs.map (Value.int .u8)).toArray e fr)) (hb : ∀ b ∈ xs, 0 ≤ b ∧ b ≤ 255) (hl : xs.length ≤ maxLen) : BytesIs w (.slice (some ⟨g, 0, none⟩) xs.length xs.length) xs :=
  ⟨_, _, rfl, Nat.le_refl _, hl, (fun h => by cases h), fun j b hj => ⟨_, rfl, by rw [addr_add, Nat.zero_add, cell_of_blk h, List.getElem?_toArray, List.getElem?_map, hj]; rfl, hb b (List.mem_of_getElem? hj)⟩⟩

set_option maxHeartbeats 2000000 in
set_option maxRecDepth 100000 in
theorem known_ok {w : World} (hT : TableAt w) : Calls Tryd.prog 10 #[] w fun e w' => e = .returned (.bool true) ∧ Chg (fun _ => False) w w' := by
  have c0 : Chg (fun _ => False) w (w.alloc (.cells (nine.map (Value.int .u8)).toArray 5 (9, 10))) := (Chg.refl _ _).alloc _
  have c1 : Chg (fun _ => False) w ((w.alloc (.cells (nine.map (Value.int .u8)).toArray 5 (9, 10))).alloc (.cells #[.slice (some ⟨w.heap.size, 0, none⟩) 9 9] 24 (0, 0))) := c0.alloc _
  have hp : PartsAre ((w.alloc (.cells (nine.map (Value.int .u8)).toArray 5 (9, 10))).alloc (.cells #[.slice (some ⟨w.heap.size, 0, none⟩) 9 9] 24 (0, 0))) (some ⟨w.heap.size + 1, 0, none⟩) [nine] := by
    intro i x hx
    match i, hx with
    | 0, hx =>
      simp at hx
      subst hx
      refine ⟨_, _, rfl, by rw [addr_add, cell_of_blk (blk_alloc_at _ _ _ (by simp))]; rfl, ?_⟩
      exact block_bytes (xs := nine) (e := 5) ((blk_alloc_past _ _ _ (by simp)).trans (blk_alloc_at _ _ _ rfl)) (by decide) (by decide)
    | n + 1, hx => simp at hx
  have HS := Lib.hid (sum_ok (cap := 1) (hT.frame c1) hp (by decide))
  have e1 : sumI (cat [nine]) = 3421780262 := by rw [show cat [nine] = nine from rfl]; exact nine_sum
  rw [e1] at HS
  have HC := Lib.hid c1
  have kc := fun (w : World) (C : Array Value) (n c : Nat) => Lib.run_convert_bytes_const (P := Tryd.prog) w 24 5 C n c Tryd.underlying24 Tryd.underlying5
  have NW := Lib.hid (fun wy => newW_ok 10 (by omega) (by omega) wy)
  clear hp e1 c0 c1
  unfold ptrV at NW
  go_enter Tryd.func10, Tryd.ntmps10
  go_wp2_with fail
  refine HS.out.mono ?_
  rintro e w1 ⟨rfl, rfl⟩
  clear HS kc
  generalize ((w.alloc (.cells (nine.map (Value.int .u8)).toArray 5 (9, 10))).alloc (.cells #[.slice (some ⟨w.heap.size, 0, none⟩) 9 9] 24 (0, 0))) = w1 at *
  go_wp2_with fail
  refine (NW.out _).mono ?_
  rintro e w2 ⟨b, m, rfl, hw, hc⟩
  have HC2 := Lib.hid (HC.out.trans hc fun _ _ => id)
  have HP := Lib.hid (wword_ok hw hc.size 16909060 (by omega) (by omega))
  have HNEW := Lib.hid (fun i => hw.foot (i := i))
  have HS1 := Lib.hid hc.size
  clear hw hc NW
  unfold ptrV at HP
  go_wp2_with fail
  refine HP.out.mono ?_
  rintro e w3 ⟨rfl, v1, hw, hc, hf⟩
  rw [show (WS.zero 10).raw (leB 16909060 4) = ⟨10, [4, 3, 2, 1], [], 0⟩ from rfl] at hw
  have HC3 := Lib.hid (HC2.out.trans hc fun i hi h => by have := (HNEW.out i h).1; have := HS1.out; have := HC.out.size; omega)
  have HD := Lib.hid (wdone_ok hw (by decide))
  clear hw hc hf HP
  unfold ptrV at HD
  go_wp2_with fail
  refine HD.out.mono ?_
  rintro e w4 ⟨v2, rfl, hr, hc⟩
  have HC4 := Lib.hid (HC3.out.trans hc fun _ _ => id)
  have hb := row_bytes (x := [4, 3, 2, 1]) hr (by decide)
  have HB := Lib.hid hb
  clear hr hc HD
  have c5 : Chg (fun _ => False) w4 (w4.alloc (.cells #[.int .u8 4, .int .u8 3, .int .u8 2, .int .u8 1] 5 (0, 0))) := (Chg.refl _ _).alloc _
  have HSM := Lib.hid (same_ok (HB.out.frame c5 fun _ _ => id) (block_bytes (w := w4.alloc (.cells #[.int .u8 4, .int .u8 3, .int .u8 2, .int .u8 1] 5 (0, 0))) (g := w4.heap.size) (xs := [4, 3, 2, 1]) (e := 5) (blk_alloc_at _ _ _ rfl) (by decide) (by decide)))
  have HC5 := Lib.hid (HC4.out.alloc (.cells #[.int .u8 4, .int .u8 3, .int .u8 2, .int .u8 1] 5 (0, 0)))
  have HB5 := Lib.hid (HB.out.frame c5 fun _ _ => id)
  clear hb c5
  go_wp2_with fail
  refine HSM.out.mono ?_
  rintro e w6 ⟨rfl, hc⟩
  have HC6 := Lib.hid (HC5.out.trans hc fun _ _ => id)
  have HNR := Lib.hid (newR_ok (HB5.out.frame hc fun _ _ => id) (by decide))
  have hdec : decide (([4, 3, 2, 1] : List Int) = [4, 3, 2, 1]) = true := by decide
  clear hc HSM
  go_wp2_with fail
  refine HNR.out.mono ?_
  rintro e w7 ⟨b', v', rfl, hrd, hc⟩
  have HC7 := Lib.hid (HC6.out.trans hc fun _ _ => id)
  have HW := Lib.hid (rWord_ok hrd)
  have HSZ := Lib.hid (And.intro hrd.nb (And.intro HC6.out.size hc.size))
  rw [show (RS.zero [4, 3, 2, 1]).num 4 = 16909060 by decide, show (RS.zero [4, 3, 2, 1]).next 4 = ⟨[4, 3, 2, 1], 4, 0, 0⟩ from rfl] at HW
  clear hrd hc HNR
  go_wp2_with fail
  refine HW.out.mono ?_
  rintro e w8 ⟨rfl, hg⟩
  have HC8 := Lib.hid (HC7.out.trans hg.2 fun i hi h => by have := HSZ.out; omega)
  have HE := Lib.hid (rerr_ok hg.1)
  clear hg HW
  dsimp only at HE
  rw [if_pos rfl] at HE
  go_wp2_with fail
  refine HE.out.mono ?_
  rintro e w9 ⟨rfl, hc⟩
  have HC9 := Lib.hid (HC8.out.trans hc fun _ _ => id)
  clear hc HE
  go_wp2
  go_ret
  exact ⟨rfl, HC9.out⟩
end Go.Proofs.YtfihpiommicdbaaDoor
