/- The document's reader: contracts of Part, Pad. No condition. -/
import Derived.Test.YtfihpiommicdbaaDoorWirRC
namespace Go.Proofs.YtfihpiommicdbaaDoor
open Go.RowKit Go.Cl
set_option linter.unusedVariables false
set_option linter.unusedSimpArgs false
attribute [local go_sem] lt_add_one' blk_alloc_past blk_alloc_at blk_drew blk_setCell_ne

theorem nil_bytes (w : World) : BytesIs w (.slice none 0 0) [] := ⟨none, 0, rfl, by simp, by simp, fun _ => rfl, fun j b hj => by simp at hj⟩

/-- A reader of nothing at which the same is wrong. -/
def RS.dead (e : Int) : RS := ⟨[], 0, 0, e⟩
theorem zero_fail {e : Int} (he : e ≠ 0) : (RS.zero []).fail e 0 = RS.dead e := rfl
theorem part_bad {s : RS} (h : s.bad ≠ 0) : s.partS = s ∧ s.partR = RS.dead s.bad := by
  have e : s.partS = s := by unfold RS.partS; rw [if_neg h]
  unfold RS.partR
  rw [e, if_neg h]
  exact ⟨rfl, rfl⟩
theorem part_some {s : RS} (h : s.bad = 0) (h2 : ((s.next 4).next s.partN).bad = 0) : s.partS = (s.next 4).next s.partN ∧ s.partR = RS.zero ((s.next 4).took s.partN) := by
  have e : s.partS = (s.next 4).next s.partN := by unfold RS.partS RS.back; rw [if_pos h, if_pos h2]
  unfold RS.partR
  rw [e, if_pos h2]
  exact ⟨rfl, rfl⟩
theorem part_none {s : RS} (h : s.bad = 0) (h2 : ((s.next 4).next s.partN).bad ≠ 0) : s.partS = { (s.next 4).next s.partN with pos := s.pos, wh := s.pos } ∧ s.partR = RS.dead ((s.next 4).next s.partN).bad := by
  have e : s.partS = { (s.next 4).next s.partN with pos := s.pos, wh := s.pos } := by unfold RS.partS RS.back; rw [if_pos h, if_neg h2]
  unfold RS.partR
  rw [e, if_neg h2]
  exact ⟨rfl, rfl⟩
/-- Where it went wrong lies not ahead of the place. -/
theorem part_wh {s : RS} (h : s.bad = 0) (h2 : ((s.next 4).next s.partN).bad ≠ 0) : ((s.next 4).next s.partN).whv = s.pos ∨ ((s.next 4).next s.partN).whv = s.pos + 4 := by
  unfold RS.whv
  rw [if_neg h2]
  rcases next_cases h 4 with ⟨e, _, _⟩ | ⟨e, _, _⟩
  · have hb : (s.next 4).bad = 0 := by rw [e]; exact h
    rcases next_cases hb s.partN with ⟨e2, _, _⟩ | ⟨e2, _, _⟩
    · rw [e2] at h2; exact absurd hb h2
    · right
      rw [e2, e]
      show ((s.pos + 4 : Nat) : Int) = _
      omega
  · left
    have hb : (s.next 4).bad ≠ 0 := by rw [e]; simp
    rw [next_bad hb, e]

theorem VdIs.lower {w : World} {base base' b : Nat} {v : Value} {s : RS} (h : VdIs w base b v s) (hb : base' ≤ base) : VdIs w base' b v s := by
  refine ⟨h.st, ⟨h.row.1, ?_⟩, h.byte, h.le, h.few, Nat.le_trans hb h.nb⟩
  rcases h.row.2 with h1 | ⟨g, cap, cur, h2, h3, h4⟩
  · exact .inl h1
  · exact .inr ⟨g, cap, cur, h2, Nat.le_trans hb h3, h4⟩

/-- Place and error's place are written. -/
theorem VdIs.put1 {w : World} {base b : Nat} {v : Value} {s : RS} (h : VdIs w base b v s) {p : Nat} (hp : p ≤ s.xs.length) (hb : s.bad ≠ 0) (hw : s.whv = p) :
    VGoes w (w.setCell ⟨b, 1, none⟩ (.int .i64 p)) base b v { s with pos := p, wh := p } := by
  refine h.put ((Chg.refl (fun i => i = b) w).setCell (p := ⟨b, 1, none⟩) (fun _ => rfl) _) rfl hp ?_
  have e : RS.whv { s with pos := p, wh := p } = (p : Int) := by unfold RS.whv; rw [if_neg hb]
  rw [blk_setCell_eq, h.st, e, hw]
  simp [objSet]
theorem VdIs.put3 {w : World} {base b : Nat} {v : Value} {s : RS} (h : VdIs w base b v s) {p : Nat} (hp : p ≤ s.xs.length) (hb : s.bad ≠ 0) :
    VGoes w ((w.setCell ⟨b, 3, none⟩ (.int .i64 p)).setCell ⟨b, 1, none⟩ (.int .i64 p)) base b v { s with pos := p, wh := p } := by
  refine h.put (((Chg.refl (fun i => i = b) w).setCell (p := ⟨b, 3, none⟩) (fun _ => rfl) _).setCell (p := ⟨b, 1, none⟩) (fun _ => rfl) _) rfl hp ?_
  have e : RS.whv { s with pos := p, wh := p } = (p : Int) := by unfold RS.whv; rw [if_neg hb]
  rw [blk_setCell_eq, blk_setCell_eq, h.st, e]
  simp [objSet]

set_option maxHeartbeats 8000000 in
set_option maxRecDepth 100000 in
theorem vpart_ok {w : World} {base b : Nat} {v : Value} {s : RS} (h : VdIs w base b v s) (hbs : base ≤ w.heap.size) :
    Calls Tryd.prog 26 #[.pointer (some ⟨b, 0, none⟩)] w fun e w' => ∃ b' v', e = .returned (.pointer (some ⟨b', 0, none⟩)) ∧ VdIs w' w.heap.size b' v' s.partR ∧ VGoes w w' base b v s.partS := by
  obtain ⟨hb, f0, f1, f2, f3, z1, z2, z3⟩ := h.facts
  have H := Lib.hid h
  have HNV := Lib.hid (fun wy => newV_ok (nil_bytes wy) (by simp))
  by_cases hbad : s.bad = 0
  · have hb1 : (s.bad != 0) = false := by simp [hbad]
    have HN := Lib.hid (vnumber_ok h 4 (by omega))
    have nb := num_bd h.byte 4
    have hp16 : (256 : Int) ^ 4 = 4294967296 := by decide
    rw [hp16] at nb
    obtain ⟨N, hN⟩ := Int.eq_ofNat_of_zero_le nb.1
    have HPN := Lib.hid (show s.partN = N by unfold RS.partN; rw [hN]; rfl)
    rw [hN] at HN nb
    have hN2 : (N : Int) ≤ 4294967295 := by omega
    have wN : IntKind.i64.wrap (N : Int) = (N : Int) := by rw [IntKind.wrap_i64]; omega
    have HB0 := Lib.hid hbad
    clear h f0 f3 z1 z2 z3 hbad nb hp16 hN
    go_enter Tryd.func26, Tryd.ntmps26
    go_wp2_with fail
    refine HN.out.mono ?_
    rintro e1 w1 ⟨rfl, hg⟩
    have HG := Lib.hid hg
    have HR := Lib.hid (vraw_ok hg.1 N (by omega))
    have HR1 := Lib.hid (show (s.next 4).rawS N = (s.next 4).next N by unfold RS.rawS; rw [if_neg (by omega)]; rfl)
    have HR2 := Lib.hid (show (s.next 4).rawV N = (s.next 4).took N by unfold RS.rawV; rw [if_neg (by omega)]; rfl)
    have HX2 := Lib.hid (show ((s.next 4).next N).xs = s.xs by rw [next_xs, next_xs])
    clear hg f1 f2 HN
    go_wp2_with fail
    refine HR.out.mono ?_
    rintro e1 w2 ⟨v2, rfl, hrow, hg⟩
    rw [HR1.out] at hg
    rw [HR2.out] at hrow
    have HG2 := Lib.hid hg
    obtain ⟨xb, x0, x1, x2, x3, p1, p2, p3⟩ := hg.1.facts
    by_cases h3 : ((s.next 4).next N).bad = 0
    · have hb3 : (((s.next 4).next N).bad != 0) = false := by simp [h3]
      have HE := Lib.hid (part_some HB0.out (by rw [HPN.out]; exact h3))
      have HNR := Lib.hid (newV_ok (row_bytes hrow (took_byte HG.out.1.byte N)) (Nat.le_trans (took_few _ _) (by rw [next_xs]; exact H.out.few)))
      clear hg h3 x0 x1 x3 p1 p2 p3 hrow HR
      go_wp2_with fail
      refine HNR.out.mono ?_
      rintro e1 w3 ⟨b3, v3, rfl, hr3, hc3⟩
      have HR3 := Lib.hid hr3
      have HC3 := Lib.hid hc3
      clear hr3 hc3
      go_wp2
      go_ret
      refine ⟨b3, v3, rfl, ?_, ?_⟩
      · rw [HE.out.2, HPN.out]
        exact HR3.out.lower (Nat.le_trans HG.out.2.size HG2.out.2.size)
      · rw [HE.out.1, HPN.out]
        exact ⟨HG2.out.1.frame HC3.out fun _ _ => id, (HG.out.2.trans HG2.out.2 fun _ _ h => h).trans HC3.out fun _ _ h => h.elim⟩
    · have hb3 : (((s.next 4).next N).bad != 0) = true := by simp [h3]
      have HB3 := Lib.hid h3
      have HE := Lib.hid (part_none HB0.out (by rw [HPN.out]; exact h3))
      have hle : s.pos ≤ ((s.next 4).next N).xs.length := by rw [HX2.out]; exact H.out.le
      obtain ⟨ov, cv, rfl, _⟩ := row_form hrow
      have hwh := part_wh HB0.out (by rw [HPN.out]; exact h3)
      rw [HPN.out] at hwh
      rcases hwh with hwh | hwh
      · have PV := Lib.hid (HG2.out.1.put1 hle h3 hwh)
        rw [hwh] at x3
        clear hg h3 x0 p2 p3 hrow HR hwh hle
        go_upto_region 12 with (fail)
        obtain ⟨wz, hwz⟩ : ∃ wz, wz = w2.setCell ⟨b, 1, none⟩ (.int .i64 (s.pos : Int)) := ⟨_, rfl⟩
        rw [← hwz] at PV ⊢
        clear hwz x1 x2 x3 p1
        go_wp2_with fail
        refine (HNV.out _).mono ?_
        rintro e1 w3 ⟨b3, v3, rfl, hr3, hc3⟩
        have HR3 := Lib.hid hr3
        have HC3 := Lib.hid hc3
        have k2 := (PV.out.1.frame hc3 fun _ _ => id).facts.2.2.2.1
        have kb := (PV.out.1.frame hc3 fun _ _ => id).facts.1
        have HF := Lib.hid (vfail_at hr3 ((s.next 4).next N).bad 0 HB3.out)
        clear hr3 hc3
        go_wp2_with fail
        refine HF.out.mono ?_
        rintro e1 w4 ⟨rfl, hg4⟩
        have HG4 := Lib.hid hg4
        clear hg4
        go_wp2
        go_ret
        refine ⟨b3, v3, rfl, ?_, ?_⟩
        · rw [HE.out.2, HPN.out]
          exact HG4.out.1.lower (Nat.le_trans (Nat.le_trans HG.out.2.size HG2.out.2.size) PV.out.2.size)
        · rw [HE.out.1, HPN.out]
          refine ⟨(PV.out.1.frame HC3.out fun _ _ => id).frame HG4.out.2 fun i hi e => ?_, (((HG.out.2.trans HG2.out.2 fun _ _ h => h).trans PV.out.2 fun _ _ h => h).trans HC3.out fun _ _ h => h.elim).trans HG4.out.2 fun i hi e => ?_⟩
          · subst e
            have := (PV.out.1.foot hi).2
            have := HR3.out.nb
            omega
          · subst e
            have := HR3.out.nb
            have := ((HG.out.2.trans HG2.out.2 fun _ _ h => h).trans PV.out.2 fun _ _ h => h).size
            omega
      · have PV := Lib.hid (HG2.out.1.put3 hle h3)
        rw [hwh] at x3
        have hgt : (s.pos : Int) < (s.pos : Int) + 4 := by omega
        clear hg h3 x0 p2 hrow HR hwh hle
        go_upto_region 12 with (fail)
        obtain ⟨wz, hwz⟩ : ∃ wz, wz = (w2.setCell ⟨b, 3, none⟩ (.int .i64 (s.pos : Int))).setCell ⟨b, 1, none⟩ (.int .i64 (s.pos : Int)) := ⟨_, rfl⟩
        rw [← hwz] at PV ⊢
        clear hwz x1 x2 x3 p1 p3
        go_wp2_with fail
        refine (HNV.out _).mono ?_
        rintro e1 w3 ⟨b3, v3, rfl, hr3, hc3⟩
        have HR3 := Lib.hid hr3
        have HC3 := Lib.hid hc3
        have k2 := (PV.out.1.frame hc3 fun _ _ => id).facts.2.2.2.1
        have kb := (PV.out.1.frame hc3 fun _ _ => id).facts.1
        have HF := Lib.hid (vfail_at hr3 ((s.next 4).next N).bad 0 HB3.out)
        clear hr3 hc3
        go_wp2_with fail
        refine HF.out.mono ?_
        rintro e1 w4 ⟨rfl, hg4⟩
        have HG4 := Lib.hid hg4
        clear hg4
        go_wp2
        go_ret
        refine ⟨b3, v3, rfl, ?_, ?_⟩
        · rw [HE.out.2, HPN.out]
          exact HG4.out.1.lower (Nat.le_trans (Nat.le_trans HG.out.2.size HG2.out.2.size) PV.out.2.size)
        · rw [HE.out.1, HPN.out]
          refine ⟨(PV.out.1.frame HC3.out fun _ _ => id).frame HG4.out.2 fun i hi e => ?_, (((HG.out.2.trans HG2.out.2 fun _ _ h => h).trans PV.out.2 fun _ _ h => h).trans HC3.out fun _ _ h => h.elim).trans HG4.out.2 fun i hi e => ?_⟩
          · subst e
            have := (PV.out.1.foot hi).2
            have := HR3.out.nb
            omega
          · subst e
            have := HR3.out.nb
            have := ((HG.out.2.trans HG2.out.2 fun _ _ h => h).trans PV.out.2 fun _ _ h => h).size
            omega
  · have hb1 : (s.bad != 0) = true := by simp [hbad]
    have HE := Lib.hid (part_bad hbad)
    have HBD := Lib.hid hbad
    clear h f0 f1 f2 f3 z1 z2 z3 hbad
    go_enter Tryd.func26, Tryd.ntmps26
    have f2 := H.out.facts.2.2.2.1
    go_wp2_with fail
    refine (HNV.out _).mono ?_
    rintro e1 w3 ⟨b3, v3, rfl, hr3, hc3⟩
    have HR3 := Lib.hid hr3
    have HC3 := Lib.hid hc3
    have k2 := (H.out.frame hc3 fun _ _ => id).facts.2.2.2.1
    have kb := (H.out.frame hc3 fun _ _ => id).facts.1
    have HF := Lib.hid (vfail_at hr3 s.bad 0 HBD.out)
    clear hr3 hc3 f2
    go_wp2_with fail
    refine HF.out.mono ?_
    rintro e1 w4 ⟨rfl, hg4⟩
    have HG4 := Lib.hid hg4
    clear hg4
    go_wp2
    go_ret
    refine ⟨b3, v3, rfl, ?_, ?_⟩
    · rw [HE.out.2]
      exact HG4.out.1
    · rw [HE.out.1]
      refine ⟨(H.out.frame HC3.out fun _ _ => id).frame HG4.out.2 fun i hi e => ?_, (HC3.out.mono fun _ _ h => h.elim).trans HG4.out.2 fun i hi e => ?_⟩
      · subst e
        have := (H.out.foot hi).2
        have := HR3.out.nb
        omega
      · subst e
        have := HR3.out.nb
        omega
theorem gap_eq {p t : Nat} (h : 0 < t) : gapN p t = if p % t = 0 then 0 else t - p % t := by
  have h1 : p % t < t := Nat.mod_lt _ h
  unfold gapN
  split
  · rename_i h0
    rw [h0, Nat.sub_zero, Nat.mod_self]
  · exact Nat.mod_eq_of_lt (by omega)
theorem gap_zero {p t : Nat} (h : 0 < t) : (p + gapN p t) % t = 0 := by
  have h1 : p % t < t := Nat.mod_lt _ h
  rw [gap_eq h, Nat.add_mod]
  split
  · rename_i h0
    rw [h0, Nat.zero_mod, Nat.add_zero, Nat.zero_mod]
  · rw [Nat.mod_eq_of_lt (show t - p % t < t by omega), show p % t + (t - p % t) = t by omega, Nat.mod_self]
theorem gap_more {p t k : Nat} (h : 0 < t) (hk : k < gapN p t) : (p + k) % t ≠ 0 := by
  have h1 : p % t < t := Nat.mod_lt _ h
  rw [gap_eq h] at hk
  split at hk
  · omega
  · rename_i h0
    rw [Nat.add_mod, Nat.mod_eq_of_lt (show k < t by omega), Nat.mod_eq_of_lt (show p % t + k < t by omega)]
    omega
theorem rem_nat (p k t : Nat) : ((p : Int) + (k : Int)).tmod (t : Int) = (((p + k) % t : Nat) : Int) := by
  rw [Int.tmod_eq_emod_of_nonneg (by omega)]
  rfl
theorem pad_arg {s : RS} {m : Int} (h : m < 1 ∨ 4096 < m) : s.padS m = s.fail 10 s.pos := by unfold RS.padS; rw [if_pos h]
theorem pad_bad {s : RS} (h : s.bad ≠ 0) (m : Int) : s.padS m = s := by
  unfold RS.padS
  rw [took_bad h]
  split
  · exact fail_bad h _ _
  · exact next_bad h _
theorem pad_none {s : RS} {t : Nat} (h1 : 1 ≤ t) (h2 : t ≤ 4096) (hz : nzAt (s.took (gapN s.pos t)) = none) : s.padS t = s.next (gapN s.pos t) := by
  unfold RS.padS
  rw [if_neg (by omega), Int.toNat_natCast, hz]
theorem pad_some {s : RS} {t i : Nat} (h1 : 1 ≤ t) (h2 : t ≤ 4096) (h : s.bad = 0) (hf : s.pos + gapN s.pos t ≤ s.xs.length) (hz : nzAt (s.took (gapN s.pos t)) = some i) : s.padS t = s.fail 13 ((s.pos : Int) + i) := by
  unfold RS.padS
  rw [if_neg (by omega), Int.toNat_natCast, hz]
  rcases next_cases h (gapN s.pos t) with ⟨e, _, _⟩ | ⟨_, e, _⟩
  · rw [e]
  · omega
theorem nzAt_none {l : List Int} (h : ∀ (i : Nat) (y : Int), l[i]? = some y → y = 0) : nzAt l = none := by
  unfold nzAt
  rw [List.findIdx?_eq_none_iff]
  intro x hx
  obtain ⟨i, hi⟩ := List.mem_iff_getElem?.1 hx
  rw [h i x hi]
  rfl
theorem nzAt_some {l : List Int} {i : Nat} {y : Int} (hi : l[i]? = some y) (hy : y ≠ 0) (h : ∀ (j : Nat), j < i → ∀ (z : Int), l[j]? = some z → z = 0) : nzAt l = some i := by
  unfold nzAt
  rw [List.findIdx?_eq_some_iff_getElem]
  obtain ⟨hlt, e⟩ := List.getElem?_eq_some_iff.1 hi
  refine ⟨hlt, by rw [e]; simpa using hy, fun j hj => ?_⟩
  have := h j hj l[j] (List.getElem?_eq_getElem (by omega))
  rw [this]
  decide

set_option maxHeartbeats 8000000 in
set_option maxRecDepth 100000 in
theorem vpad_ok {w : World} {base b : Nat} {v : Value} {s : RS} (h : VdIs w base b v s) (m : Int) :
    Calls Tryd.prog 73 #[.pointer (some ⟨b, 0, none⟩), .int .i64 m] w fun r w' => r = .returned (.tuple #[]) ∧ VGoes w w' base b v (s.padS m) := by
  obtain ⟨hb, f0, f1, f2, f3, z1, z2, z3⟩ := h.facts
  have H := Lib.hid h
  by_cases hbad : s.bad = 0
  · have hb1 : (s.bad != 0) = false := by simp [hbad]
    have HF := Lib.hid (vfail_at h 10 s.pos (by decide))
    by_cases hlo : m < 1
    · rw [pad_arg (.inl hlo)]
      clear h f0 f3 z1 z2 z3 hbad
      go_enter Tryd.func73, Tryd.ntmps73
      go_wp2_with fail
      refine HF.out.mono ?_
      rintro e1 w1 ⟨rfl, hg⟩
      have HG := Lib.hid hg
      clear hg HF
      go_wp2
      refine bodyPost_ret (results_none rfl _ _ _) rfl ?_
      exact ⟨rfl, HG.out⟩
    · by_cases hhi : 4096 < m
      · rw [pad_arg (.inr hhi)]
        clear h f0 f3 z1 z2 z3 hbad
        go_enter Tryd.func73, Tryd.ntmps73
        go_wp2_with fail
        refine HF.out.mono ?_
        rintro e1 w1 ⟨rfl, hg⟩
        have HG := Lib.hid hg
        clear hg HF
        go_wp2
        refine bodyPost_ret (results_none rfl _ _ _) rfl ?_
        exact ⟨rfl, HG.out⟩
      · obtain ⟨t, rfl⟩ := Int.eq_ofNat_of_zero_le (show 0 ≤ m by omega)
        have ht0 : 0 < t := by omega
        have ht1 : t ≤ 4096 := by omega
        have t0 : ((t : Int) == 0) = false := by simp; omega
        obtain ⟨o1, c1, hv, hc1, hc2, hc3, hc4⟩ := row_form h.row
        have hle := h.le
        have hfew := h.few
        obtain ⟨n, hn⟩ : ∃ n, n = gapN s.pos t := ⟨_, rfl⟩
        have hnt : n < t := by rw [hn]; exact gapN_lt ht0
        have G0 := Lib.hid (show (s.pos + n) % t = 0 by rw [hn]; exact gap_zero ht0)
        have GM := Lib.hid (fun k (hk : k < n) => (show (s.pos + k) % t ≠ 0 from gap_more ht0 (by rw [← hn]; exact hk)))
        have HNE := Lib.hid hn
        have HB0 := Lib.hid hbad
        have HT := Lib.hid (And.intro ht0 ht1)
        have wk : IntKind.i64.wrap ((s.xs.length : Int) - (s.pos : Int)) = (s.xs.length : Int) - (s.pos : Int) := by rw [IntKind.wrap_i64]; omega
        have HD := Lib.hid (fun q => h.frame ((Chg.refl (fun _ => False) w).drewN q) fun _ _ => id)
        rw [hv] at f0
        clear h hn hbad HF f3 z2 z3 hc3 hc4 hc2
        subst hv
        go_enter Tryd.func73, Tryd.ntmps73
        go_wp2
        go_loop [4] (fun s4 => ∃ k : Nat, k ≤ n ∧ s4 = .int .i64 k) (fun i => n - (intOf i).toNat)
        case atStart => exact ⟨0, Nat.zero_le _, rfl⟩
        case round =>
          obtain ⟨k, hk, rfl⟩ := hrel
          have hr1 := rem_nat s.pos k t
          have hr2 : ((s.pos : Int) + (k : Int)) % (t : Int) = (((s.pos + k) % t : Nat) : Int) := rfl
          have wk1 : IntKind.i64.wrap ((s.pos : Int) + (k : Int)) = (s.pos : Int) + (k : Int) := by rw [IntKind.wrap_i64]; omega
          obtain ⟨Z, hZ⟩ : ∃ Z : Int, Z = (((s.pos + k) % t : Nat) : Int) := ⟨_, rfl⟩
          rw [← hZ] at hr1 hr2
          by_cases hlt : k < n
          · have hz : (Z != 0) = true := by
              have := GM.out k hlt
              rw [bne_iff_ne]
              omega
            have wk3 : IntKind.i64.wrap ((k : Int) + 1) = (k : Int) + 1 := by rw [IntKind.wrap_i64]; omega
            have HLT := Lib.hid hlt
            clear hZ hlt
            go_wp2
            go_round
            case rel => exact ⟨k + 1, HLT.out, by go_num⟩
            case measure => have := HLT.out; simp [intOf]; omega
          · have hkn : k = n := by omega
            subst hkn
            have hz : (Z != 0) = false := by
              have := G0.out
              rw [bne_eq_false_iff_eq]
              omega
            clear hZ hlt
            go_wp2
            have HNK := Lib.hid (show gapN s.pos t = k from HNE.out.symm)
            by_cases hr : s.pos + k ≤ s.xs.length
            · have hr1' : ¬ ((s.xs.length : Int) - (s.pos : Int) < (k : Int)) := by omega
              have hr2' : decide ((s.xs.length : Int) - (s.pos : Int) < (k : Int)) = false := by simp; omega
              have HR := Lib.hid hr
              have HTK := Lib.hid (show s.took k = (s.xs.drop s.pos).take k by
                rcases next_cases HB0.out k with ⟨_, _, e⟩ | ⟨_, e2, _⟩
                · exact e
                · omega)
              go_quiet (fail)
              obtain ⟨wq, hwq⟩ : ∃ wq, wq = w.drewN nq := ⟨_, rfl⟩
              have HCQ := Lib.hid (show Chg (fun _ => False) w wq by rw [hwq]; exact (Chg.refl _ _).drewN _)
              rw [← hwq]
              clear hwq f0 f1 f2 z1 hr1' hr2' hb hr1 hr2 hz HD
              go_wp2
              go_loopg [5] k (fun g s5 wr => ∃ i : Nat, i + g = k ∧ s5 = .int .i64 i ∧ (∀ (j : Nat), j < i → ∀ (z : Int), ((s.xs.drop s.pos).take k)[j]? = some z → z = 0) ∧ Chg (fun _ => False) w wr)
              case atStart => exact ⟨0, by omega, rfl, fun j hj => by omega, HCQ.out⟩
              case round =>
                obtain ⟨i, hik, rfl, hz, hc⟩ := hrel
                have HZ := Lib.hid hz
                have HC := Lib.hid hc
                have hV := H.out.frame hc fun _ _ => id
                have HV := Lib.hid hV
                obtain ⟨yb, y0, y1, y2, y3, q1, q2, q3⟩ := hV.facts
                clear hz hc hV y2 y3 q2 q3
                by_cases hlt : i < k
                · have hlt' : (i : Int) < (k : Int) := by omega
                  have wki : IntKind.i64.wrap ((s.pos : Int) + (i : Int)) = (s.pos : Int) + (i : Int) := by rw [IntKind.wrap_i64]; omega
                  obtain ⟨g2, o2, c2, hv2, _, _, hat2⟩ := (row_bytes HV.out.row HV.out.byte).at (by omega)
                  simp only [Value.slice.injEq] at hv2
                  obtain ⟨rfl, _, rfl⟩ := hv2
                  obtain ⟨hcell, hb0, hb1'⟩ := hat2 (s.pos + i) _ (List.getElem?_eq_getElem (by omega))
                  have HE := Lib.hid (show ((s.xs.drop s.pos).take k)[i]? = some s.xs[s.pos + i] by
                    rw [List.getElem?_take_of_lt hlt, List.getElem?_drop]
                    exact List.getElem?_eq_getElem (by omega))
                  generalize s.xs[s.pos + i] = y at *
                  have HLT := Lib.hid hlt
                  have HIK := Lib.hid hik
                  have hx : (s.pos : Int) + (i : Int) < (s.xs.length : Int) := by omega
                  have hx0 : (0 : Int) ≤ (s.pos : Int) + (i : Int) := by omega
                  have hx1 : ((s.pos : Int) + (i : Int)).toNat = s.pos + i := by omega
                  have wk3 : IntKind.i64.wrap ((i : Int) + 1) = (i : Int) + 1 := by rw [IntKind.wrap_i64]; omega
                  clear hat2
                  by_cases hy : y = 0
                  · have hy1 : (y != 0) = false := by simp [hy]
                    have HY := Lib.hid hy
                    clear hy hik
                    go_wp2
                    go_quiet (fail)
                    go_wp2
                    go_roundg (k - (i + 1))
                    case measure => have := HLT.out; have := HIK.out; omega
                    case rel =>
                      refine ⟨i + 1, by have := HLT.out; omega, by go_num, fun j hj z hjz => ?_, HC.out.drewN _⟩
                      by_cases hji : j = i
                      · subst hji
                        rw [HE.out] at hjz
                        rw [← Option.some.inj hjz]
                        exact HY.out
                      · exact HZ.out j (by omega) z hjz
                  · have hy1 : (y != 0) = true := by simp [hy]
                    have HPS := Lib.hid (pad_some HT.out.1 HT.out.2 HB0.out (by rw [HNK.out]; exact HR.out) (by rw [HNK.out, HTK.out]; exact nzAt_some HE.out hy HZ.out))
                    have HF := Lib.hid (fun q => vfail_at (HV.out.frame ((Chg.refl (fun _ => False) wr).drewN q) fun _ _ => id) 13 ((s.pos : Int) + (i : Int)) (by decide))
                    have HQ1 := Lib.hid (fun q => (HV.out.frame ((Chg.refl (fun _ => False) wr).drewN q) fun _ _ => id).facts.2.2.1)
                    clear hy hik
                    go_wp2
                    go_quiet (fail)
                    have y1' := HQ1.out nq
                    go_wp2_with fail
                    refine (HF.out _).mono ?_
                    rintro e1 w1 ⟨rfl, hg⟩
                    have HG := Lib.hid hg
                    clear hg HF
                    go_wp2
                    refine bodyPost_ret (results_none rfl _ _ _) rfl ?_
                    exact ⟨rfl, by rw [HPS.out]; exact HG.out.after ((HC.out.mono fun _ _ h => h.elim).drewN _)⟩
                · have hik' : i = k := by omega
                  subst hik'
                  have hnz : nzAt ((s.xs.drop s.pos).take i) = none := nzAt_none fun j z hj => by
                    have hjl := (List.getElem?_eq_some_iff.1 hj).1
                    rw [List.length_take] at hjl
                    exact HZ.out j (by omega) z hj
                  have HPS := Lib.hid (show s.padS t = { s with pos := s.pos + i } by
                    rcases next_cases HB0.out i with ⟨e1, _, e3⟩ | ⟨_, e2, _⟩
                    · rw [pad_none HT.out.1 HT.out.2 (by rw [HNK.out, e3]; exact hnz), HNK.out, e1]
                    · have := HR.out; omega)
                  have HP := Lib.hid (show VGoes wr (wr.setCell ⟨b, 1, none⟩ (.int .i64 ((s.pos : Int) + (i : Int)))) base b _ { s with pos := s.pos + i } from HV.out.put ((Chg.refl (fun i => i = b) wr).setCell (p := ⟨b, 1, none⟩) (fun _ => rfl) _) rfl HR.out (by
                    rw [blk_setCell_eq, HV.out.st]
                    simp [objSet, RS.whv]))
                  have wki : IntKind.i64.wrap ((s.pos : Int) + (i : Int)) = (s.pos : Int) + (i : Int) := by rw [IntKind.wrap_i64]; omega
                  clear hnz hik
                  go_wp2
                  refine bodyPost_end (results_none rfl _ _ _) rfl ?_
                  exact ⟨rfl, by rw [HPS.out]; exact HP.out.after (HC.out.mono fun _ _ h => h.elim)⟩
            · have hr1' : ((s.xs.length : Int) - (s.pos : Int) < (k : Int)) := by omega
              have hr2' : decide ((s.xs.length : Int) - (s.pos : Int) < (k : Int)) = true := by simp; omega
              have HPS := Lib.hid (show s.padS t = s.fail 11 s.pos by
                rcases next_cases HB0.out k with ⟨_, e2, _⟩ | ⟨e1, _, e3⟩
                · exact absurd e2 hr
                · rw [pad_none HT.out.1 HT.out.2 (by rw [HNK.out, e3]; rfl), HNK.out, e1]
                  unfold RS.fail
                  rw [if_pos HB0.out])
              have HF := Lib.hid (fun q => vfail_at (HD.out q) 11 s.pos (by decide))
              have HQ1 := Lib.hid (fun q => (HD.out q).facts.2.2.1)
              go_quiet (fail)
              have y1' := HQ1.out nq
              go_wp2_with fail
              refine (HF.out _).mono ?_
              rintro e1 w1 ⟨rfl, hg⟩
              have HG := Lib.hid hg
              clear hg HF
              go_wp2
              refine bodyPost_ret (results_none rfl _ _ _) rfl ?_
              exact ⟨rfl, by rw [HPS.out]; exact HG.out.after ((Chg.refl _ _).drewN _)⟩
  · have hb1 : (s.bad != 0) = true := by simp [hbad]
    rw [pad_bad hbad]
    clear h f0 f1 f3 z1 z2 z3 hbad
    go_enter Tryd.func73, Tryd.ntmps73
    go_wp2
    refine bodyPost_ret (results_none rfl _ _ _) rfl ?_
    exact ⟨rfl, H.out.stays (Chg.refl _ _)⟩
end Go.Proofs.YtfihpiommicdbaaDoor
