/- The document's reader: contract of Text. No condition. -/
import Derived.Test.YtfihpiommicdbaaDoorWirRB
namespace Go.Proofs.YtfihpiommicdbaaDoor
open Go.RowKit Go.Cl
set_option linter.unusedVariables false
set_option linter.unusedSimpArgs false
attribute [local go_sem] lt_add_one' blk_alloc_past blk_alloc_at blk_drew blk_setCell_ne

theorem next_bad {s : RS} (h : s.bad ≠ 0) (n : Nat) : s.next n = s := by
  unfold RS.next RS.okB RS.fail
  rw [decide_eq_false h]
  simp [h]
theorem took_bad {s : RS} (h : s.bad ≠ 0) (n : Nat) : s.took n = [] := by
  unfold RS.took RS.okB
  rw [decide_eq_false h]
  simp
theorem num_bad {s : RS} (h : s.bad ≠ 0) (n : Nat) : s.num n = 0 := by
  unfold RS.num
  rw [took_bad h]
  rfl
theorem fail_bad {s : RS} (h : s.bad ≠ 0) (e p : Int) : s.fail e p = s := by
  unfold RS.fail
  rw [if_neg h]
theorem next_cases {s : RS} (h : s.bad = 0) (n : Nat) : (s.next n = { s with pos := s.pos + n } ∧ s.pos + n ≤ s.xs.length ∧ s.took n = (s.xs.drop s.pos).take n) ∨ (s.next n = { s with bad := 11, wh := s.pos } ∧ s.xs.length < s.pos + n ∧ s.took n = []) := by
  by_cases hr : s.pos + n ≤ s.xs.length
  · left
    unfold RS.next RS.took RS.okB
    rw [decide_eq_true h, decide_eq_true hr]
    exact ⟨rfl, hr, rfl⟩
  · right
    unfold RS.next RS.took RS.okB
    rw [decide_eq_true h, decide_eq_false hr]
    simp [RS.fail, h]
    omega
theorem text_bad {s : RS} (h : s.bad ≠ 0) (m : Int) : s.textS m = s ∧ s.textV m = [] := by
  unfold RS.textS RS.textV
  rw [if_neg h, if_neg h]
  exact ⟨rfl, rfl⟩
theorem text_neg {s : RS} (h : s.bad = 0) {m : Int} (hm : m < 0) : s.textS m = s.fail 10 s.pos ∧ s.textV m = [] := by
  have hf : s.fail 10 s.pos = { s with bad := 10, wh := s.pos } := by unfold RS.fail; rw [if_pos h]
  have hb : (s.fail 10 s.pos).bad ≠ 0 := by rw [hf]; simp
  have h0 : s.text0 m = s.fail 10 s.pos := by unfold RS.text0; rw [if_pos hm]
  have h1 : s.text1 m = s.fail 10 s.pos := by
    unfold RS.text1
    rw [h0, next_bad hb, fail_bad hb]
    split <;> rfl
  unfold RS.textS RS.textV
  rw [if_pos h, if_pos h, h1, next_bad hb, took_bad hb]
  refine ⟨?_, rfl⟩
  unfold RS.back
  rw [if_neg hb, hf]
theorem text_short {s : RS} (h : s.bad = 0) {m : Int} (hm : 0 ≤ m) (h2 : (s.next 2).bad ≠ 0) : s.textS m = s.next 2 ∧ s.textV m = [] := by
  have h0 : s.text0 m = s := by unfold RS.text0; rw [if_neg (by omega)]
  rcases next_cases h 2 with ⟨e, _, _⟩ | ⟨e, _, ht⟩
  · rw [e] at h2; exact absurd h h2
  have hn : s.num 2 = 0 := by unfold RS.num; rw [ht]; rfl
  have h1 : s.text1 m = s.next 2 := by
    unfold RS.text1
    rw [h0, hn, if_neg (by omega)]
  unfold RS.textS RS.textV
  rw [if_pos h, if_pos h, h1, next_bad h2, took_bad h2]
  refine ⟨?_, rfl⟩
  unfold RS.back
  rw [if_neg h2, e]
theorem text_long {s : RS} (h : s.bad = 0) {m : Int} (hm : 0 ≤ m) (h2 : (s.next 2).bad = 0) (hl : m < s.num 2) : s.textS m = { s.next 2 with pos := s.pos, bad := 15, wh := s.pos } ∧ s.textV m = [] := by
  have h0 : s.text0 m = s := by unfold RS.text0; rw [if_neg (by omega)]
  have hf : (s.next 2).fail 15 (s.next 2).pos = { s.next 2 with bad := 15, wh := (s.next 2).pos } := by unfold RS.fail; rw [if_pos h2]
  have hb : ((s.next 2).fail 15 (s.next 2).pos).bad ≠ 0 := by rw [hf]; simp
  have h1 : s.text1 m = (s.next 2).fail 15 (s.next 2).pos := by
    unfold RS.text1
    rw [h0, if_pos hl]
  unfold RS.textS RS.textV
  rw [if_pos h, if_pos h, h1, next_bad hb, took_bad hb]
  refine ⟨?_, rfl⟩
  unfold RS.back
  rw [if_neg hb, hf]
theorem text_rest {s : RS} (h : s.bad = 0) {m : Int} (hm : 0 ≤ m) (hl : ¬ m < s.num 2) : s.textS m = ((s.next 2).next (s.num 2).toNat).back s.pos ∧ s.textV m = (s.next 2).took (s.num 2).toNat := by
  have h0 : s.text0 m = s := by unfold RS.text0; rw [if_neg (by omega)]
  have h1 : s.text1 m = s.next 2 := by
    unfold RS.text1
    rw [h0, if_neg hl]
  unfold RS.textS RS.textV RS.textN
  rw [if_pos h, if_pos h, h1, h0]
  exact ⟨rfl, rfl⟩

/-- What a writing of two of the cells makes. -/
theorem VdIs.put2 {w : World} {base b : Nat} {v : Value} {s : RS} (h : VdIs w base b v s) {p : Nat} (hp : p ≤ s.xs.length) (hb : s.bad ≠ 0) :
    VGoes w ((w.setCell ⟨b, 1, none⟩ (.int .i64 p)).setCell ⟨b, 3, none⟩ (.int .i64 p)) base b v (s.back p) := by
  have e : s.back p = { s with pos := p, wh := p } := by unfold RS.back; rw [if_neg hb]
  rw [e]
  refine h.put (((Chg.refl (fun i => i = b) w).setCell (p := ⟨b, 1, none⟩) (fun _ => rfl) _).setCell (p := ⟨b, 3, none⟩) (fun _ => rfl) _) rfl hp ?_
  rw [blk_setCell_eq, blk_setCell_eq, h.st]
  simp [objSet, RS.whv, hb]

set_option maxHeartbeats 8000000 in
set_option maxRecDepth 100000 in
theorem vtext_ok {w : World} {base b : Nat} {v : Value} {s : RS} (h : VdIs w base b v s) (hbs : base ≤ w.heap.size) (m : Int) :
    Calls Tryd.prog 72 #[.pointer (some ⟨b, 0, none⟩), .int .i64 m] w fun r w' => r = .returned (.string (strOfNums (s.textV m))) ∧ VGoes w w' base b v (s.textS m) := by
  obtain ⟨hb, f0, f1, f2, f3, z1, z2, z3⟩ := h.facts
  have H := Lib.hid h
  by_cases hbad : s.bad = 0
  · have hb1 : (s.bad != 0) = false := by simp [hbad]
    by_cases hneg : m < 0
    · have HF := Lib.hid (vfail_at h 10 s.pos (by decide))
      have HE := Lib.hid (text_neg hbad hneg)
      clear h f0 f3 z1 z2 z3 hbad
      go_enter Tryd.func72, Tryd.ntmps72
      go_wp2_with fail
      refine HF.out.mono ?_
      rintro e1 w1 ⟨rfl, hg⟩
      have HG := Lib.hid hg
      clear hg HF
      go_wp2
      go_ret
      exact ⟨by rw [HE.out.2]; rfl, by rw [HE.out.1]; exact HG.out⟩
    · have HN := Lib.hid (vnumber_ok h 2 (by omega))
      have nb := num_bd h.byte 2
      have hp16 : (256 : Int) ^ 2 = 65536 := by decide
      rw [hp16] at nb
      obtain ⟨N, hN⟩ := Int.eq_ofNat_of_zero_le nb.1
      have HNN := Lib.hid hN
      rw [hN] at HN nb
      have hN2 : (N : Int) ≤ 65535 := by omega
      have wN : IntKind.i64.wrap (N : Int) = (N : Int) := by rw [IntKind.wrap_i64]; omega
      have HB0 := Lib.hid hbad
      have HNG := Lib.hid (show 0 ≤ m by omega)
      clear h f0 f3 z1 z2 z3 hbad nb hp16 hN
      go_enter Tryd.func72, Tryd.ntmps72
      go_wp2_with fail
      refine HN.out.mono ?_
      rintro e1 w1 ⟨rfl, hg⟩
      have HG := Lib.hid hg
      obtain ⟨yb, y0, y1, y2, y3, q1, q2, q3⟩ := hg.1.facts
      by_cases h2 : (s.next 2).bad = 0
      · have hb2 : ((s.next 2).bad != 0) = false := by simp [h2]
        have HH2 := Lib.hid h2
        by_cases hl : m < N
        · have HE := Lib.hid (text_long HB0.out HNG.out h2 (by rw [HNN.out]; exact hl))
          have HS1 := Lib.hid (show VGoes w1 (w1.setCell ⟨b, 1, none⟩ (.int .i64 s.pos)) base b v { s.next 2 with pos := s.pos } from HG.out.1.put ((Chg.refl (fun i => i = b) w1).setCell (p := ⟨b, 1, none⟩) (fun _ => rfl) _) rfl (by rw [next_xs]; exact H.out.le) (by
            rw [blk_setCell_eq, HG.out.1.st]
            simp [objSet, RS.whv]))
          have HF := Lib.hid (vfail_at HS1.out.1 15 s.pos (by decide))
          clear hg h2 y0 y3 f1 f2 q2 q3
          go_wp2_with fail
          refine HF.out.mono ?_
          rintro e1 w2 ⟨rfl, hg⟩
          have HG2 := Lib.hid hg
          clear hg HF
          go_wp2
          go_ret
          refine ⟨by rw [HE.out.2]; rfl, ?_⟩
          rw [HE.out.1]
          have e : RS.fail { s.next 2 with pos := s.pos } 15 s.pos = { s.next 2 with pos := s.pos, bad := 15, wh := s.pos } := by unfold RS.fail; rw [if_pos HH2.out]
          rw [← e]
          exact (HG2.out.after HS1.out.2).after HG.out.2
        · have HE := Lib.hid (text_rest HB0.out HNG.out (by rw [HNN.out]; exact hl))
          have hNt : (s.num 2).toNat = N := by rw [HNN.out]; rfl
          rw [hNt] at HE
          have HR := Lib.hid (vraw_ok hg.1 N (by omega))
          have HR1 := Lib.hid (show (s.next 2).rawS N = (s.next 2).next N by unfold RS.rawS; rw [if_neg (by omega)]; rfl)
          have HR2 := Lib.hid (show (s.next 2).rawV N = (s.next 2).took N by unfold RS.rawV; rw [if_neg (by omega)]; rfl)
          have HX2 := Lib.hid (show ((s.next 2).next N).xs = s.xs by rw [next_xs, next_xs])
          clear hg h2 y0 y3 f1 f2 q2 q3 y1 hNt
          go_wp2_with fail
          refine HR.out.mono ?_
          rintro e1 w2 ⟨v2, rfl, hrow, hg⟩
          rw [HR1.out] at hg
          rw [HR2.out] at hrow
          have HG2 := Lib.hid hg
          obtain ⟨xb, x0, x1, x2, x3, p1, p2, p3⟩ := hg.1.facts
          by_cases h3 : ((s.next 2).next N).bad = 0
          · have hb3 : (((s.next 2).next N).bad != 0) = false := by simp [h3]
            have HT := Lib.hid (took_byte HG.out.1.byte N)
            have HBK := Lib.hid (show ((s.next 2).next N).back s.pos = (s.next 2).next N by unfold RS.back; rw [if_pos h3])
            obtain ⟨ov, cv, rfl, hsrc, _⟩ := src_of_row hrow (fun u hu => by obtain ⟨_, _, rfl⟩ := List.mem_map.1 hu; rfl)
            have cx := conv_src (P := Tryd.prog) (w := w2) Tryd.underlying24 Tryd.underlying5 Tryd.underlying9 (xs := (s.next 2).took N) hsrc cv
            clear hg h3 x0 x1 x3 p1 p2 p3 hsrc hrow HR
            go_wp2
            go_ret
            exact ⟨by rw [HE.out.2]; rfl, by rw [HE.out.1, HBK.out]; exact HG2.out.after HG.out.2⟩
          · have hb3 : (((s.next 2).next N).bad != 0) = true := by simp [h3]
            have HT := Lib.hid (took_bad (s := s.next 2))
            have HV := Lib.hid (show (s.next 2).took N = [] by
              rcases next_cases HH2.out N with ⟨e, _, _⟩ | ⟨_, _, e⟩
              · exact absurd (by rw [e]; exact HH2.out) h3
              · exact e)
            have HP := Lib.hid (HG2.out.1.put2 (p := s.pos) (by rw [HX2.out]; exact H.out.le) h3)
            obtain ⟨ov, cv, rfl, _⟩ := row_form hrow
            clear hg h3 x0 p2 hrow HR
            go_wp2
            go_ret
            exact ⟨by rw [HE.out.2, HV.out]; rfl, by rw [HE.out.1]; exact (HP.out.after HG2.out.2).after HG.out.2⟩
      · have hb2 : ((s.next 2).bad != 0) = true := by simp [h2]
        have HE := Lib.hid (text_short HB0.out HNG.out h2)
        clear hg h2 y0 y1 y3 f1 f2 q1 q2 q3
        go_wp2
        go_ret
        exact ⟨by rw [HE.out.2]; rfl, by rw [HE.out.1]; exact HG.out⟩
  · have hb1 : (s.bad != 0) = true := by simp [hbad]
    have HE := Lib.hid (text_bad hbad m)
    clear h f0 f1 f3 z1 z2 z3 hbad
    go_enter Tryd.func72, Tryd.ntmps72
    go_wp2
    go_ret
    exact ⟨by rw [HE.out.2]; rfl, by rw [HE.out.1]; exact H.out.stays (Chg.refl _ _)⟩
end Go.Proofs.YtfihpiommicdbaaDoor
