/- The document's reader: contracts of Raw, Number. No condition. -/
import Derived.Test.YtfihpiommicdbaaDoorWirRA
namespace Go.Proofs.YtfihpiommicdbaaDoor
open Go.RowKit Go.Cl
set_option linter.unusedVariables false
set_option linter.unusedSimpArgs false
attribute [local go_sem] lt_add_one' blk_alloc_past blk_alloc_at blk_drew blk_setCell_ne

theorem raw_bad {s : RS} (h : s.bad ≠ 0) (n : Int) : s.rawS n = s ∧ s.rawV n = [] := by
  unfold RS.rawS RS.rawV RS.next RS.took RS.okB RS.fail
  rw [decide_eq_false h]
  simp [h]

set_option maxHeartbeats 4000000 in
set_option maxRecDepth 100000 in
theorem vraw_ok {w : World} {base b : Nat} {v : Value} {s : RS} (h : VdIs w base b v s) (n : Int) (hn : n ≤ 9223372036854775807) :
    Calls Tryd.prog 68 #[.pointer (some ⟨b, 0, none⟩), .int .i64 n] w fun r w' => ∃ v', r = .returned v' ∧ w'.ownsRow w.heap.size 5 1 v' (s.rawV n).length (u8s (s.rawV n)) ∧ VGoes w w' base b v (s.rawS n) := by
  obtain ⟨hb, f0, f1, f2, f3, z1, z2, z3⟩ := h.facts
  have H := Lib.hid h
  by_cases hbad : s.bad = 0
  · have hb1 : (s.bad != 0) = false := by simp [hbad]
    by_cases hneg : n < 0
    · have HF := Lib.hid (vfail_at h 10 s.pos (by decide))
      have HE1 := Lib.hid (show s.rawS n = s.fail 10 s.pos by unfold RS.rawS; rw [if_pos hneg])
      have HE2 := Lib.hid (show s.rawV n = [] by unfold RS.rawV; rw [if_pos hneg])
      clear h f0 f3 z1 z2 z3 hbad
      go_enter Tryd.func68, Tryd.ntmps68
      go_wp2_with fail
      refine HF.out.mono ?_
      rintro e1 w1 ⟨rfl, hg⟩
      have HG := Lib.hid hg
      clear hg HF
      go_wp2
      go_ret
      exact ⟨_, rfl, by rw [HE2.out]; exact nil_row _ _ _, by rw [HE1.out]; exact HG.out⟩
    · obtain ⟨k, rfl⟩ := Int.eq_ofNat_of_zero_le (show 0 ≤ n by omega)
      have HE1 := Lib.hid (show s.rawS k = s.next k by unfold RS.rawS; rw [if_neg (by omega)]; rfl)
      have HE2 := Lib.hid (show s.rawV k = s.took k by unfold RS.rawV; rw [if_neg (by omega)]; rfl)
      obtain ⟨o1, c1, hv, hc1, hc2, hc3, hc4⟩ := row_form h.row
      have hle := h.le
      have hfew := h.few
      have HC3 := Lib.hid hc3
      have HC4 := Lib.hid hc4
      have HMX := Lib.hid hc2
      unfold maxLen at hc2
      have wk : IntKind.i64.wrap ((s.xs.length : Int) - (s.pos : Int)) = (s.xs.length : Int) - (s.pos : Int) := by rw [IntKind.wrap_i64]; omega
      have HD := Lib.hid (fun m => h.frame ((Chg.refl (fun _ => False) w).drewN m) fun _ _ => id)
      rw [hv] at f0
      clear h f3 z2 z3 hc3 hc4
      by_cases hr : s.pos + k ≤ s.xs.length
      · have HN := Lib.hid (show s.next k = { s with pos := s.pos + k } by unfold RS.next RS.okB; rw [decide_eq_true hbad, decide_eq_true hr]; rfl)
        have HT := Lib.hid (show s.took k = (s.xs.drop s.pos).take k by unfold RS.took RS.okB; rw [decide_eq_true hbad, decide_eq_true hr]; rfl)
        have HL := Lib.hid (show ((s.xs.drop s.pos).take k).length = k by rw [List.length_take, List.length_drop]; omega)
        have hr1 : ¬ ((s.xs.length : Int) - (s.pos : Int) < (k : Int)) := by omega
        have hr2 : decide ((s.xs.length : Int) - (s.pos : Int) < (k : Int)) = false := by simp; omega
        have wk2 : IntKind.i64.wrap ((s.pos : Int) + (k : Int)) = (s.pos : Int) + (k : Int) := by rw [IntKind.wrap_i64]; omega
        have hh1 : (s.pos : Int) + (k : Int) ≤ (c1 : Int) := by omega
        obtain ⟨i0, hi, hz0, hz1, hz2⟩ := info5z
        have HROW := Lib.hid (fun m => (HD.out m).row)
        have HBY := Lib.hid H.out.byte
        clear hbad
        subst hv
        go_enter Tryd.func68, Tryd.ntmps68
        go_wp2
        go_quiet (fail)
        have y0 := (HD.out nq).facts.2.1
        have y1 := (HD.out nq).facts.2.2.1
        have yz := (HD.out nq).facts.2.2.2.2.2.1
        have yb := (HD.out nq).facts.1
        clear f0 f1 f2 z1 hb hr2
        obtain ⟨wq, hwq⟩ : ∃ wq, wq = w.drewN nq := ⟨_, rfl⟩
        have HQ := Lib.hid (show VdIs wq base b (.slice o1 s.xs.length c1) s by rw [hwq]; exact HD.out nq)
        have HCQ := Lib.hid (show Chg (fun _ => False) w wq by rw [hwq]; exact (Chg.refl _ _).drewN _)
        have HSZ := Lib.hid (show w.heap.size ≤ wq.drew.heap.size by rw [hwq]; exact ((Chg.refl (fun _ => False) w).drewN nq).drew.size)
        rw [← hwq] at y0 y1 yz yb ⊢
        clear hwq HD HROW
        have HNR := Lib.hid (nil_row wq.drew w.heap.size 5)
        go_upto_region 10 with (fail)
        obtain ⟨x, hx⟩ : ∃ x, x = (s.xs.drop s.pos).take k := ⟨_, rfl⟩
        have HXE := Lib.hid hx
        have HX := Lib.hid (show x.length = k by rw [hx]; exact HL.out)
        have HKB := Lib.hid (show k ≤ 140737488355328 by omega)
        have HR := Lib.hid hr
        have hk0 : (0 : Int) ≤ (s.pos : Int) + (k : Int) := by omega
        have hk1 : ((s.pos : Int) + (k : Int)).toNat = s.pos + k := by omega
        clear hx
        cases o1 with
        | none =>
          have hx0 : s.xs.length = 0 ∧ c1 = 0 := HC3.out rfl
          have hp0 : s.pos = 0 := by omega
          have hn0 : k = 0 := by omega
          have hx1 : x = [] := by rw [HXE.out, hn0]; rfl
          have HX1 := Lib.hid hx1
          obtain ⟨hx0, hc0⟩ := hx0
          subst hc0
          subst hn0
          rw [hx0] at y0
          have SRC := Lib.hid (show SrcIs wq.drew 1 none 0 (u8s x) by rw [hx1]; exact SrcIs.none)
          have HC0 := Lib.hid (show (none : Option Addr) = none → 0 = 0 from fun _ => rfl)
          have hpz : s.pos = 0 := hp0
          have HPZ := Lib.hid hpz
          have wk3 : IntKind.i64.wrap (0 : Int) = 0 := by decide
          clear hx1 hx0 hpz hk0 hk1 wk2
          rw [hp0] at y1
          go_still_tail 16, (by kernel_rfl)
          change wpList _ _ _ _ _ (World.drew wq)
          go_wp2_with (at_builtin; refine wpList_app rfl _ _ 24 rfl w.heap.size 5 i0 (.int .u8 0) 1 1 Tryd.underlying24 hi hz0 hz1 hz2 rfl (by decide) (.slice none 0 0) 0 [] (by rfl) HNR.out none _ 0 (u8s x) (by rfl) SRC.out HC0.out (by have := HKB.out; unfold maxLen; omega) (by have := HKB.out; omega) HSZ.out ?_; intro v1 w2 hown hgrow hlie; have HO := Lib.hid (show w2.ownsRow w.heap.size 5 1 v1 x.length (u8s x) by rw [HX.out]; simpa using hown); have hc2' : Chg (fun _ => False) wq.drew w2 := ((Chg.of_grown hgrow).mono fun _ _ h => by simp [Value.ownBlock] at h); have HC2 := Lib.hid ((Chg.refl (fun _ => False) wq).drew.trans hc2' fun _ _ => id); have hV2 := HQ.out.frame HC2.out fun _ _ => id; have q1 := hV2.facts.2.2.1; have qz := hV2.facts.2.2.2.2.2.1; have HV2 := Lib.hid hV2; have HFR := Lib.hid (show ∀ g0, v1.ownBlock = some g0 → ¬ (g0 = b) from fun g0 hg0 e => by rw [hg0] at hlie; rcases hlie with hl | hl <;> simp [Value.ownBlock] at hl; omega); clear hown hgrow hlie hc2' hV2)
          have HE1 := Lib.hid (show s.rawS 0 = s.next 0 from HE1.out)
          have HE2 := Lib.hid (show s.rawV 0 = s.took 0 from HE2.out)
          go_ret
          refine ⟨_, rfl, ?_, ?_⟩
          · rw [HE2.out, HT.out, ← HXE.out]
            exact row_frame HO.out ((Chg.refl (fun i => i = b) w2).setCell (p := ⟨b, 1, none⟩) (fun _ => rfl) _) HFR.out
          · rw [HE1.out, HN.out]
            exact (HV2.out.put (s' := { s with pos := s.pos + 0 }) ((Chg.refl (fun i => i = b) w2).setCell (p := ⟨b, 1, none⟩) (fun _ => rfl) (.int .i64 0)) rfl HR.out (by
              rw [blk_setCell_eq, HV2.out.st]
              simp [objSet, RS.whv, HPZ.out])).after ((HCQ.out.trans HC2.out fun _ _ => id).mono fun _ _ h => h.elim)
        | some a =>
          have ha : a = ⟨a.block, 0, none⟩ := HC4.out a rfl
          obtain ⟨g, hg⟩ : ∃ g, g = a.block := ⟨_, rfl⟩
          rw [← hg] at ha
          subst ha
          clear hg
          by_cases hcp : c1 = s.pos
          · have hn0 : k = 0 := by omega
            have hx1 : x = [] := by rw [HXE.out, hn0]; rfl
            subst hn0
            subst hcp
            have SRC := Lib.hid (show SrcIs wq.drew 1 (some ⟨g, 0, none⟩) 0 (u8s x) by rw [hx1]; exact SrcIs.some rfl (by simp) (by simp))
            have HC0 := Lib.hid (show (some (⟨g, 0, none⟩ : Addr)) = none → 0 = 0 from fun h => by cases h)
            have wk3 : IntKind.i64.wrap (s.pos : Int) = s.pos := by rw [IntKind.wrap_i64]; omega
            clear hx1 hk0 hk1 wk2
            go_still_tail 16, (by kernel_rfl)
            change wpList _ _ _ _ _ (World.drew wq)
            go_wp2_with (at_builtin; refine wpList_app rfl _ _ 24 rfl w.heap.size 5 i0 (.int .u8 0) 1 1 Tryd.underlying24 hi hz0 hz1 hz2 rfl (by decide) (.slice none 0 0) 0 [] (by rfl) HNR.out (some ⟨g, 0, none⟩) _ 0 (u8s x) (by rfl) SRC.out HC0.out (by have := HKB.out; unfold maxLen; omega) (by have := HKB.out; omega) HSZ.out ?_; intro v1 w2 hown hgrow hlie; have HO := Lib.hid (show w2.ownsRow w.heap.size 5 1 v1 x.length (u8s x) by rw [HX.out]; simpa using hown); have hc2' : Chg (fun _ => False) wq.drew w2 := ((Chg.of_grown hgrow).mono fun _ _ h => by simp [Value.ownBlock] at h); have HC2 := Lib.hid ((Chg.refl (fun _ => False) wq).drew.trans hc2' fun _ _ => id); have hV2 := HQ.out.frame HC2.out fun _ _ => id; have q1 := hV2.facts.2.2.1; have qz := hV2.facts.2.2.2.2.2.1; have HV2 := Lib.hid hV2; have HFR := Lib.hid (show ∀ g0, v1.ownBlock = some g0 → ¬ (g0 = b) from fun g0 hg0 e => by rw [hg0] at hlie; rcases hlie with hl | hl <;> simp [Value.ownBlock] at hl; omega); clear hown hgrow hlie hc2' hV2)
            have HE1 := Lib.hid (show s.rawS 0 = s.next 0 from HE1.out)
            have HE2 := Lib.hid (show s.rawV 0 = s.took 0 from HE2.out)
            go_ret
            refine ⟨_, rfl, ?_, ?_⟩
            · rw [HE2.out, HT.out, ← HXE.out]
              exact row_frame HO.out ((Chg.refl (fun i => i = b) w2).setCell (p := ⟨b, 1, none⟩) (fun _ => rfl) _) HFR.out
            · rw [HE1.out, HN.out]
              exact (HV2.out.put (s' := { s with pos := s.pos + 0 }) ((Chg.refl (fun i => i = b) w2).setCell (p := ⟨b, 1, none⟩) (fun _ => rfl) (.int .i64 (s.pos : Int))) rfl HR.out (by
                rw [blk_setCell_eq, HV2.out.st]
                simp [objSet, RS.whv])).after ((HCQ.out.trans HC2.out fun _ _ => id).mono fun _ _ h => h.elim)
          · have hcp' : ¬ (s.pos = c1) := fun h => hcp h.symm
            have hpart : BytesIs wq.drew (.slice (some ⟨g, s.pos, none⟩) k (c1 - s.pos)) x := by
              rw [HXE.out]
              exact row_part (HQ.out.frame ((Chg.refl (fun _ => False) wq).drew) fun _ _ => id).row HBY.out rfl hr (by omega) (by unfold maxLen; omega) (fun h => by cases h) fun _ a h => by
                cases h
                rw [addr_add, Nat.zero_add]
            have SRC := Lib.hid (show SrcIs wq.drew 1 (some ⟨g, s.pos, none⟩) k (u8s x) by have := hpart.src; rw [HX.out] at this; exact this)
            have HC0 := Lib.hid (show (some (⟨g, s.pos, none⟩ : Addr)) = none → c1 - s.pos = 0 from fun h => by cases h)
            clear hpart
            go_still_tail 16, (by kernel_rfl)
            change wpList _ _ _ _ _ (World.drew wq)
            go_wp2_with (at_builtin; refine wpList_app rfl _ _ 24 rfl w.heap.size 5 i0 (.int .u8 0) 1 1 Tryd.underlying24 hi hz0 hz1 hz2 rfl (by decide) (.slice none 0 0) 0 [] (by rfl) HNR.out (some ⟨g, s.pos, none⟩) _ (c1 - s.pos) (u8s x) (by rfl) SRC.out HC0.out (by have := HKB.out; unfold maxLen; omega) (by have := HKB.out; omega) HSZ.out ?_; intro v1 w2 hown hgrow hlie; have HO := Lib.hid (show w2.ownsRow w.heap.size 5 1 v1 x.length (u8s x) by rw [HX.out]; simpa using hown); have hc2' : Chg (fun _ => False) wq.drew w2 := ((Chg.of_grown hgrow).mono fun _ _ h => by simp [Value.ownBlock] at h); have HC2 := Lib.hid ((Chg.refl (fun _ => False) wq).drew.trans hc2' fun _ _ => id); have hV2 := HQ.out.frame HC2.out fun _ _ => id; have q1 := hV2.facts.2.2.1; have qz := hV2.facts.2.2.2.2.2.1; have HV2 := Lib.hid hV2; have HFR := Lib.hid (show ∀ g0, v1.ownBlock = some g0 → ¬ (g0 = b) from fun g0 hg0 e => by rw [hg0] at hlie; rcases hlie with hl | hl <;> simp [Value.ownBlock] at hl; omega); clear hown hgrow hlie hc2' hV2)
            go_ret
            refine ⟨_, rfl, ?_, ?_⟩
            · rw [HE2.out, HT.out, ← HXE.out]
              exact row_frame HO.out ((Chg.refl (fun i => i = b) w2).setCell (p := ⟨b, 1, none⟩) (fun _ => rfl) _) HFR.out
            · rw [HE1.out, HN.out]
              exact (HV2.out.put (s' := { s with pos := s.pos + k }) ((Chg.refl (fun i => i = b) w2).setCell (p := ⟨b, 1, none⟩) (fun _ => rfl) (.int .i64 ((s.pos : Int) + (k : Int)))) rfl HR.out (by
                rw [blk_setCell_eq, HV2.out.st]
                simp [objSet, RS.whv])).after ((HCQ.out.trans HC2.out fun _ _ => id).mono fun _ _ h => h.elim)
      · have HN := Lib.hid (show s.next k = s.fail 11 s.pos by unfold RS.next RS.okB; rw [decide_eq_false hr, Bool.and_false]; rfl)
        have HT := Lib.hid (show s.took k = [] by unfold RS.took RS.okB; rw [decide_eq_false hr, Bool.and_false]; rfl)
        have hr1 : (s.xs.length : Int) - (s.pos : Int) < (k : Int) := by omega
        have hr2 : decide ((s.xs.length : Int) - (s.pos : Int) < (k : Int)) = true := by simp; omega
        have HF := Lib.hid (fun m => vfail_at (HD.out m) 11 s.pos (by decide))
        have HF1 := Lib.hid (fun m => (HD.out m).facts.2.2.1)
        subst hv
        clear hbad
        go_enter Tryd.func68, Tryd.ntmps68
        go_wp2
        go_quiet (fail)
        have y1 := HF1.out nq
        go_wp2_with fail
        refine (HF.out _).mono ?_
        rintro e1 w1 ⟨rfl, hg⟩
        have HG := Lib.hid hg
        clear hg HF
        go_wp2
        go_ret
        exact ⟨_, rfl, by rw [HE2.out, HT.out]; exact nil_row _ _ _, by rw [HE1.out, HN.out]; exact HG.out.after ((Chg.refl _ _).drewN _)⟩
  · have hb1 : (s.bad != 0) = true := by simp [hbad]
    have HE := Lib.hid (raw_bad hbad n)
    clear h f0 f1 f3 z1 z2 z3 hbad
    go_enter Tryd.func68, Tryd.ntmps68
    go_wp2
    go_ret
    exact ⟨_, rfl, by rw [HE.out.2]; exact nil_row _ _ _, by rw [HE.out.1]; exact H.out.stays (Chg.refl _ _)⟩
/-- The number from the top byte down. -/
theorem leV_drop (l : List Int) (i : Nat) (h : i < l.length) : leV (l.drop i) = l[i] + 256 * leV (l.drop (i + 1)) := by
  rw [List.drop_eq_getElem_cons h]
  rfl

set_option maxHeartbeats 4000000 in
set_option maxRecDepth 100000 in
theorem vnumber_ok {w : World} {base b : Nat} {v : Value} {s : RS} (h : VdIs w base b v s) (n : Nat) (hn : n ≤ 8) :
    Calls Tryd.prog 67 #[.pointer (some ⟨b, 0, none⟩), .int .i64 n] w fun r w' => r = .returned (.int .u64 (s.num n)) ∧ VGoes w w' base b v (s.next n) := by
  have HR := Lib.hid (vraw_ok h n (by omega))
  have HB := Lib.hid (took_byte h.byte n)
  have HLN := Lib.hid (took_len s n)
  have HE1 := Lib.hid (show s.rawS n = s.next n by unfold RS.rawS; rw [if_neg (by omega)]; rfl)
  have HE2 := Lib.hid (show s.rawV n = s.took n by unfold RS.rawV; rw [if_neg (by omega)]; rfl)
  have HNE := Lib.hid (show s.num n = leV (s.took n) from rfl)
  clear h
  go_enter Tryd.func67, Tryd.ntmps67
  go_wp2_with fail
  refine HR.out.mono ?_
  rintro e1 w1 ⟨v', rfl, hrow, hg⟩
  rw [HE2.out] at hrow
  rw [HE1.out] at hg
  obtain ⟨x, hx⟩ : ∃ x, x = s.took n := ⟨_, rfl⟩
  rw [← hx] at hrow HNE HB HLN
  have HG := Lib.hid hg
  have hbs := row_bytes hrow HB.out
  have HBS := Lib.hid hbs
  have hxl := HLN.out
  clear hg HR hx HE2 hrow
  obtain ⟨ob, c, rfl, hc1, hc2, hc3, hat⟩ := hbs
  have HAT := Lib.hid hat
  clear hat hc3
  unfold maxLen at hc2
  go_wp2
  go_loop [6, 7] (fun s6 s7 => ∃ i : Nat, i ≤ x.length ∧ s7 = .int .i64 ((i : Int) - 1) ∧ s6 = .int .u64 (leV (x.drop i))) (fun _ i => (intOf i + 1).toNat)
  case atStart => exact ⟨x.length, Nat.le_refl _, rfl, by simp [leV]⟩
  case round =>
    obtain ⟨i, hi, rfl, rfl⟩ := hrel
    cases i with
    | succ i =>
      have hlt : i < x.length := hi
      obtain ⟨g2, o2, c2, hv2, _, _, hat2⟩ := (show BytesIs w1 (.slice ob x.length c) x from HBS.out).at (by omega)
      simp only [Value.slice.injEq] at hv2
      obtain ⟨rfl, _, rfl⟩ := hv2
      obtain ⟨hcell, hb0, hb1⟩ := hat2 i _ (List.getElem?_eq_getElem hlt)
      have HLD := Lib.hid (leV_drop x i hlt)
      have hvb := leV_bd (x.drop (i + 1)) fun b hb => HB.out b (List.mem_of_mem_drop hb)
      have hle : (256 : Int) ^ (x.drop (i + 1)).length ≤ 256 ^ 7 := by
        have h : ∀ k : Fin 8, (256 : Int) ^ (k : Nat) ≤ 256 ^ 7 := by decide
        exact h ⟨(x.drop (i + 1)).length, by rw [List.length_drop]; omega⟩
      generalize hv1 : leV (x.drop (i + 1)) = vv at *
      generalize x[i] = y at *
      have hv7 : (256 : Int) ^ 7 = 72057594037927936 := by decide
      rw [hv7] at hle
      have ei : ((i + 1 : Nat) : Int) - 1 = (i : Int) := by omega
      rw [ei]
      have i0 : (0 : Int) ≤ (i : Int) := by omega
      have hlt' : (i : Int) < (x.length : Int) := by omega
      have w1' : IntKind.u64.wrap (256 * vv) = 256 * vv := by rw [IntKind.wrap_u64]; omega
      have w2' : IntKind.u64.wrap (256 * vv + y) = 256 * vv + y := by rw [IntKind.wrap_u64]; omega
      have w3' : IntKind.u64.wrap y = y := by rw [IntKind.wrap_u64]; omega
      have HV1 := Lib.hid hv1
      have HLT := Lib.hid hlt
      clear hat2 hvb hle hv1 hv7
      go_wp2
      go_round
      case rel => exact ⟨i, Nat.le_of_lt HLT.out, by go_num, by rw [HLD.out, Int.add_comm]⟩
      case measure => simp [intOf]
    | zero =>
      rw [List.drop_zero, ← HNE.out]
      have hneg : ¬ (0 : Int) ≤ ((0 : Nat) : Int) - 1 := by decide
      obtain ⟨nv, hnv⟩ : ∃ nv, nv = s.num n := ⟨_, rfl⟩
      rw [← hnv]
      have HNV := Lib.hid hnv
      clear hnv
      go_wp2
      go_ret
      exact ⟨by rw [← HNV.out]; rfl, HG.out⟩
end Go.Proofs.YtfihpiommicdbaaDoor
