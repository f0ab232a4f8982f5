/- Writers: contracts of Text, Pad. No condition. -/
import Derived.Test.YtfihpiommicdbaaDoorWirN
import Derived.Test.YtfihpiommicdbaaDoorLibStr
namespace Go.Proofs.YtfihpiommicdbaaDoor
open Go.RowKit Go.Cl
open Go.Maps (Keyed)
open Go.ChangeMaps (setBlock)
set_option linter.unusedVariables false
set_option linter.unusedSimpArgs false
attribute [local go_sem] lt_add_one' blk_alloc_past blk_alloc_at blk_drew blk_setCell_ne blk_setBlock_ne blk_setBlock_eq cell_setBlock_ne frozen_setBlock_ne size_setBlock

def WS.text0 (s : WS) (z : ByteArray) : WS := if 65535 < z.size then s.fail 15 else s
/-- What Text does to a writer. -/
def WS.text (s : WS) (z : ByteArray) : WS := (s.text0 z).raw (leB z.size 2 ++ strNums z)

theorem roomB_bad {s : WS} (h : s.bad ≠ 0) (n : Int) : s.roomB n = false := by unfold WS.roomB; rw [decide_eq_false h]; rfl
theorem room_bad {s : WS} (h : s.bad ≠ 0) (n : Int) : s.room n = s := by unfold WS.room; rw [if_neg fun e => h e.1]
theorem wfail_bad (s : WS) {e : Int} (he : e ≠ 0) : (s.fail e).bad ≠ 0 := by unfold WS.fail; split; exact he; assumption

set_option maxHeartbeats 2000000 in
set_option maxRecDepth 100000 in
theorem wtext_ok {w : World} {base b m : Nat} {v : Value} {s : WS} (h : WrIs w base b m v s) (hbase : base ≤ w.heap.size) (z : ByteArray) (hz : z.size ≤ 1000000) :
    Calls Tryd.prog 55 #[ptrV b, .string z] w fun r w' => r = .returned (.tuple #[]) ∧ WGoes w w' base b m v (s.text z) := by
  obtain ⟨i0, hi, hz0, hz1, hz2⟩ := info5z
  have HZ := Lib.hid hz
  have HBASE := Lib.hid hbase
  by_cases hbig : 65535 < z.size
  · have HE := Lib.hid (show s.text z = s.fail 15 by
      unfold WS.text WS.text0
      rw [if_pos hbig]
      unfold WS.raw
      rw [roomB_bad (wfail_bad s (by decide)), room_bad (wfail_bad s (by decide))]
      simp)
    have HF := Lib.hid (wfail_ok h 15)
    have HFB := Lib.hid (wfail_bad s (e := 15) (by decide))
    have hbig' : (65535 : Int) < (z.size : Int) := by omega
    have hz' : (z.size : Int) ≤ 1000000 := by omega
    clear h hz hbig hbase
    unfold ptrV at *
    go_enter Tryd.func55, Tryd.ntmps55
    go_wp2_with fail
    refine HF.out.mono ?_
    rintro e w1 ⟨rfl, v1, hw1, hc1, hf1⟩
    have HR := Lib.hid (wroom_ok hw1 (2 + z.size) (by omega) (by omega))
    rw [roomB_bad HFB.out, room_bad HFB.out] at HR
    have HC1 := Lib.hid hc1
    have HF1 := Lib.hid hf1
    clear hw1 hc1 hf1 HF
    unfold ptrV at *
    go_wp2_with fail
    refine HR.out.mono ?_
    rintro e w2 ⟨rfl, hg⟩
    have HG := Lib.hid hg
    clear hg HR
    go_wp2
    go_end0
    exact ⟨rfl, by rw [HE.out]; exact WGoes.after HC1.out HF1.out HG.out⟩
  · have hbig' : ¬ (65535 : Int) < (z.size : Int) := by omega
    have hlen : (leB z.size 2 ++ strNums z).length = 2 + z.size := by rw [List.length_append, leB_len, strNums_len]
    have HLEN := Lib.hid hlen
    cases hr : s.roomB (2 + z.size : Int) with
    | true =>
      have hr1 : s.roomB ((leB z.size 2 ++ strNums z).length : Int) = true := by rw [hlen]; push_cast; exact hr
      obtain ⟨e1, e2, e3, e4⟩ := raw_yes hr1
      have HE := Lib.hid (show s.text z = { s with xs := s.xs ++ (leB z.size 2 ++ strNums z) } by unfold WS.text WS.text0; rw [if_neg (by omega)]; exact e1)
      rw [hlen] at e4
      have H4 := Lib.hid e4
      have HR := Lib.hid (wroom_yes h (2 + z.size) (by omega) (by omega) hr)
      have hp : s.raw (leB z.size 2) = { s with xs := s.xs ++ leB z.size 2 } := by
        unfold WS.raw
        rw [leB_len, if_pos]
        unfold WS.roomB
        rw [decide_eq_true e3, decide_eq_true (by omega)]
        rfl
      have HPE := Lib.hid hp
      have H := Lib.hid h
      have hz' : (z.size : Int) ≤ 65535 := by omega
      have wz : IntKind.u16.wrap (z.size : Int) = (z.size : Int) := by rw [IntKind.wrap_u16]; omega
      clear e1 e2 e3 e4 hr1 hr hlen hp h hz hbig hbase
      unfold ptrV at *
      go_enter Tryd.func55, Tryd.ntmps55
      go_wp2_with fail
      refine HR.out.mono ?_
      rintro e w1 ⟨rfl, hc1⟩
      have HPT := Lib.hid (put16_ok (H.out.frame hc1 fun _ _ => id) (Nat.le_trans HBASE.out hc1.size) z.size (by omega) (by omega))
      rw [HPE.out] at HPT
      have HC1 := Lib.hid hc1
      clear hc1 HR
      unfold ptrV at *
      go_wp2_with fail
      refine HPT.out.mono ?_
      rintro e w2 ⟨rfl, v2, hw2, hc2, hf2⟩
      obtain ⟨hb, -, f1, -, -, z1, -⟩ := hw2.facts
      obtain ⟨o2, c2, hv, -⟩ := row_form hw2.row
      dsimp only at hv f1
      subst hv
      obtain ⟨ys, hys⟩ : ∃ ys, ys = s.xs ++ leB z.size 2 := ⟨_, rfl⟩
      have hyl : ys.length = s.xs.length + 2 := by rw [hys, List.length_append, leB_len]
      rw [← hys] at hw2 f1 hf2
      have HYS := Lib.hid hys
      have HYL := Lib.hid hyl
      have HW := Lib.hid hw2
      have HRow := Lib.hid hw2.row
      have HL1 := Lib.hid (show s.lim ≤ 67108864 from H.out.fine.l1)
      have HBS := Lib.hid (Nat.le_trans HBASE.out (Nat.le_trans HC1.out.size hc2.size))
      have HNB := Lib.hid (show some b ≠ (Value.slice o2 ys.length c2).ownBlock from hw2.ne.2.1)
      have HC2 := Lib.hid hc2
      have HF2 := Lib.hid hf2
      clear hys hyl hw2 hc2 hf2 HPT
      go_wp2_with (at_builtin; refine wpList_app_str rfl _ _ 24 9 rfl base 5 i0 Tryd.underlying24 Tryd.underlying9 hi hz0 hz1 hz2 (.slice o2 ys.length c2) ys.length (u8s ys) (by rfl) HRow.out z (by rfl) (by have := HL1.out; have := H4.out; have := HYL.out; unfold maxLen; omega) (by have := HL1.out; have := H4.out; have := HYL.out; omega) HBS.out ?_; intro v3 w3 hown hgrow hlie; have f1d := (hgrow.cell_far ⟨b, 1, none⟩ hb HNB.out).trans f1; have z1d := (hgrow.frozen_far ⟨b, 1, none⟩ hb HNB.out).trans z1; obtain ⟨ov, cv, rfl, -⟩ := row_form hown; have HO := Lib.hid hown; have HG := Lib.hid hgrow; have HLie := Lib.hid hlie; clear hown hgrow hlie)
      go_end0
      have hap := WrIs.append (ys := strNums z) HW.out (Chg.refl _ _) (by rw [strNums_len]; have h9 := HO.out; rw [strCells_nums] at h9; exact h9) HG.out HLie.out (strNums_byte z) (by rw [strNums_len]; have := H4.out; have := HYL.out; show ((ys.length : Int)) + _ ≤ s.lim; omega)
      refine ⟨rfl, ?_⟩
      rw [HE.out]
      refine WGoes.after (HC1.out.mono fun _ _ h => h.elim) (fun i hi => .inl hi) (WGoes.after HC2.out HF2.out ?_)
      dsimp only at hap
      have e2 : ys ++ strNums z = s.xs ++ (leB z.size 2 ++ strNums z) := by rw [HYS.out, List.append_assoc]
      rw [e2] at hap
      exact hap
    | false =>
      have hr1 : s.roomB ((leB z.size 2 ++ strNums z).length : Int) = false := by rw [hlen]; push_cast; exact hr
      have HE := Lib.hid (show s.text z = s.room (2 + z.size : Int) by
        unfold WS.text WS.text0
        rw [if_neg (by omega), raw_no hr1, hlen]
        push_cast; rfl)
      have HR := Lib.hid (wroom_ok h (2 + z.size) (by omega) (by omega))
      rw [hr] at HR
      have hz' : (z.size : Int) ≤ 65535 := by omega
      clear hr1 hr hlen h hz hbig hbase
      unfold ptrV at *
      go_enter Tryd.func55, Tryd.ntmps55
      go_wp2_with fail
      refine HR.out.mono ?_
      rintro e w1 ⟨rfl, hg⟩
      have HG := Lib.hid hg
      clear hg HR
      go_wp2
      go_end0
      exact ⟨rfl, by rw [HE.out]; exact HG.out⟩
end Go.Proofs.YtfihpiommicdbaaDoor
