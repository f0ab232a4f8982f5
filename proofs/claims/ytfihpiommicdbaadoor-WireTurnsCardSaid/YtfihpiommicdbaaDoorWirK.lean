/- The laws' 'kept': bytes as they were, and the marks; then they are written over. No condition. -/
import Derived.Test.YtfihpiommicdbaaDoorWirJ
namespace Go.Proofs.YtfihpiommicdbaaDoor
open Go.RowKit Go.Cl
set_option linter.unusedVariables false
set_option linter.unusedSimpArgs false
attribute [local go_sem] lt_add_one' blk_alloc_past blk_alloc_at blk_drew blk_setCell_ne

def marked (xs : List Int) : List Int := xs ++ [90, 165]
theorem marked_len (xs : List Int) : (marked xs).length = xs.length + 2 := by simp [marked]
theorem marked_byte {xs : List Int} (h : Bytes xs) : Bytes (marked xs) := fun b hb => by
  rcases List.mem_append.1 hb with hb | hb
  · exact h b hb
  · simp at hb; omega
/-- The first k are 238. -/
def overTo (L : List Int) (k : Nat) : List Int := List.replicate k 238 ++ L.drop k
theorem overTo_zero (L : List Int) : overTo L 0 = L := by simp [overTo]
theorem overTo_len {L : List Int} {k : Nat} (h : k ≤ L.length) : (overTo L k).length = L.length := by simp [overTo]; omega
theorem overTo_all (L : List Int) : overTo L L.length = List.replicate L.length 238 := by simp [overTo]
theorem overTo_succ {L : List Int} {k : Nat} (h : k < L.length) : (overTo L k).set k 238 = overTo L (k + 1) := by
  unfold overTo
  rw [List.set_append_right _ _ (by simp), List.length_replicate, Nat.sub_self, List.drop_eq_getElem_cons h, List.set_cons_zero, List.replicate_succ', List.append_assoc]
  rfl
theorem overTo_byte {L : List Int} (h : Bytes L) (k : Nat) : Bytes (overTo L k) := fun b hb => by
  rcases List.mem_append.1 hb with hb | hb
  · have := (List.mem_replicate.1 hb).2; omega
  · exact h b (List.mem_of_mem_drop hb)

set_option maxHeartbeats 2000000 in
set_option maxRecDepth 100000 in
theorem kept_ok {w : World} {base g cap : Nat} {xs : List Int} (h : w.ownsRow base 5 1 (.slice (some ⟨g, 0, none⟩) (xs.length + 2) cap) (xs.length + 2) (u8s (marked xs))) {v : Value} (hv : BytesIs w v xs) :
    Calls Tryd.prog 13 #[.slice (some ⟨g, 0, none⟩) (xs.length + 2) cap, v] w fun e w' => e = .returned (.bool true) ∧ w'.ownsRow base 5 1 (.slice (some ⟨g, 0, none⟩) (xs.length + 2) cap) (xs.length + 2) (u8s (List.replicate (xs.length + 2) 238)) ∧ Chg (fun i => i = g) w w' := by
  have hby := hv.byte
  have hrc := row_cut h (show xs.length ≤ xs.length + 2 by omega)
  have e1 : (u8s (marked xs)).take (xs.length * 1) = u8s xs := by unfold marked u8s; simp
  rw [e1] at hrc
  have HS := Lib.hid (same_ok (row_bytes hrc hby) hv)
  have hde : decide (xs = xs) = true := decide_eq_true rfl
  rw [hde] at HS
  obtain ⟨g', cap', cur, hv', hgb, hc1, hc2, hblk, _, hat⟩ := row_at h (by omega)
  simp only [Value.slice.injEq, Option.some.injEq, Addr.mk.injEq, true_and, and_true] at hv'
  obtain ⟨rfl, rfl⟩ := hv'
  have y0 := hat xs.length (.int .u8 90) (by unfold marked; simp)
  have y1 := hat (xs.length + 1) (.int .u8 165) (by unfold marked; simp)
  unfold maxLen at hc2
  have H := Lib.hid h
  have HB := Lib.hid (marked_byte hby)
  obtain ⟨oa, c, rfl, hx1, hx2, _⟩ := hv
  clear h hrc e1 hde hat hby hblk hgb
  have hn1 : ((xs.length + 2 : Nat) : Int) - 2 = (xs.length : Int) := by omega
  have hn2 : ((xs.length + 2 : Nat) : Int) - 1 = ((xs.length + 1 : Nat) : Int) := by omega
  go_enter Tryd.func13, Tryd.ntmps13
  go_wp2_with fail
  refine HS.out.mono ?_
  rintro e w1 ⟨rfl, hc⟩
  have z0 := cell_frame hc (fun _ _ => id) y0
  have z1 := cell_frame hc (fun _ _ => id) y1
  have HC := Lib.hid hc
  clear hc y0 y1 HS
  go_wp2_with fail
  go_loopw [6] (fun s6 wr => ∃ k : Nat, k ≤ xs.length + 2 ∧ s6 = .int .i64 k ∧ wr.ownsRow base 5 1 (.slice (some ⟨g, 0, none⟩) (xs.length + 2) cap) (xs.length + 2) (u8s (overTo (marked xs) k)) ∧ Chg (fun i => i = g) w wr) (fun i _ => xs.length + 2 - (intOf i).toNat)
  case atStart => exact ⟨0, by omega, rfl, by rw [overTo_zero]; exact row_frame H.out HC.out fun _ _ => id, HC.out.mono fun _ _ h => h.elim⟩
  case round =>
    obtain ⟨k, hk, rfl, hrow, hch⟩ := hrel
    have HR := Lib.hid hrow
    have HCH := Lib.hid hch
    by_cases hlt : k < xs.length + 2
    · obtain ⟨g', cap', cur', hv', _, _, _, hblk, _, hat⟩ := row_at hrow (by omega)
      simp only [Value.slice.injEq, Option.some.injEq, Addr.mk.injEq, true_and, and_true] at hv'
      obtain ⟨rfl, rfl⟩ := hv'
      have hkl : k < (overTo (marked xs) k).length := by rw [overTo_len (by rw [marked_len]; omega), marked_len]; omega
      have hcell := hat k (.int .u8 (overTo (marked xs) k)[k]) (by rw [List.getElem?_map, List.getElem?_eq_getElem hkl]; rfl)
      have hfz := frozen_of_blk hblk k
      have HS := Lib.hid (row_set (v := 238) hrow hlt)
      have HO := Lib.hid (overTo_succ (L := marked xs) (k := k) (by rw [marked_len]; omega))
      have hlt' : (k : Int) < (xs.length : Int) + 2 := by omega
      generalize (overTo (marked xs) k)[k] = y at *
      clear hrow hch hat hblk hkl
      go_wp2
      go_roundw
      case rel => exact ⟨k + 1, by omega, by go_num, by rw [← HO.out]; exact HS.out, HCH.out.setCell (p := ⟨g, k, none⟩) (fun _ => rfl) _⟩
      case measure => simp [intOf]; omega
    · have hke : k = xs.length + 2 := by omega
      subst hke
      have HE := Lib.hid (show overTo (marked xs) (xs.length + 2) = List.replicate (xs.length + 2) 238 by have := overTo_all (marked xs); rwa [marked_len] at this)
      clear hrow hch
      go_wp2
      go_ret
      exact ⟨rfl, by have := HR.out; rwa [HE.out] at this, HCH.out⟩
end Go.Proofs.YtfihpiommicdbaaDoor
