/- The document's writer: contract of Shut. No condition. -/
import Derived.Test.YtfihpiommicdbaaDoorWirWB
namespace Go.Proofs.YtfihpiommicdbaaDoor
open Go.RowKit Go.Cl
set_option linter.unusedVariables false
set_option linter.unusedSimpArgs false
attribute [local go_sem] lt_add_one' blk_alloc_past blk_alloc_at blk_drew blk_setCell_ne

theorem rowLow {w : World} {base base' : Nat} {e : TypeId} {size : Nat} {v : Value} {n : Nat} {xs : List Value} (h : w.ownsRow base e size v n xs) (hb : base' ≤ base) : w.ownsRow base' e size v n xs := by
  obtain ⟨h1, h2 | ⟨g, cap, cur, hv, hg, r⟩⟩ := h
  · exact ⟨h1, .inl h2⟩
  · exact ⟨h1, .inr ⟨g, cap, cur, hv, Nat.le_trans hb hg, r⟩⟩
/-- What is not that place. -/
def notP (L : List Int) (p : Int) : List Int := L.filter fun x => !(x == p)
theorem notP_hit {L : List Int} {p x : Int} (h : (x == p) = true) : notP (L ++ [x]) p = notP L p := by simp [notP, h]
theorem notP_miss {L : List Int} {p x : Int} (h : (x == p) = false) : notP (L ++ [x]) p = notP L p ++ [x] := by simp [notP, h]
theorem notP_rev {L : List Int} (hn : L.Nodup) (p : Int) : notP L.reverse p = (L.erase p).reverse := by
  unfold notP
  rw [hn.erase_eq_filter, List.filter_reverse]
  rfl
theorem notP_len (L : List Int) (p : Int) : (notP L p).length ≤ L.length := List.length_filter_le _ _

/-- The list of places is another one, maybe none. -/
theorem VwIs.setO' {w w1 : World} {base b : Nat} {v o o' : Value} {s : WS} {op : List Int} (h : VwIs w base b v o s) (hc : Chg (fun _ => False) w w1) (hown : w1.ownsRow base 3 1 o' op.length (i64s op.reverse)) (hg : ∀ g, o'.ownBlock = some g → w.heap.size ≤ g) (hp : ∀ p ∈ op, 0 ≤ p ∧ p + 4 ≤ s.xs.length) (hn : op.Nodup) : VwIs (w1.setCell ⟨b, 2, none⟩ o') base b v o' { s with op := op } ∧ Chg (VwFoot b v o) w (w1.setCell ⟨b, 2, none⟩ o') ∧ ∀ i, VwFoot b v o' i → VwFoot b v o i ∨ w.heap.size ≤ i := by
  obtain ⟨n1, n2, n3⟩ := h.ne
  have hb1 : blk w1 b = _ := hc.blk' h.st id
  have hc2 : Chg (fun i => i = b) w1 (w1.setCell ⟨b, 2, none⟩ o') := Chg.setCell (S := fun i => i = b) (Chg.refl _ _) (p := ⟨b, 2, none⟩) (fun _ => rfl) _
  have ho1 : w1.ownsRow base 5 1 v s.xs.length (u8s s.xs) := row_frame h.row hc fun _ _ => id
  refine ⟨⟨?_, row_frame ho1 hc2 fun g hg e => n1 (by rw [← e, hg]), row_frame hown hc2 fun g hg2 e => ?_, ⟨h.fine.l0, h.fine.l1, h.fine.few, h.fine.byte, hp, hn⟩, h.nb⟩, (hc.mono fun i _ h => h.elim).trans hc2 fun i _ h => .inl h, fun i hi => ?_⟩
  · rw [blk_setCell_eq, hb1]
    simp [objSet]
  · have := hg g hg2
    have := blk_lt h.st
    omega
  · rcases hi with rfl | hi | hi
    · exact .inl (.inl rfl)
    · exact .inl (.inr (.inl hi))
    · exact .inr (hg i hi.symm)
/-- The bytes with four of them written over. -/
theorem over_cat {xs : List Int} {q : Nat} (n : Int) : overAt xs (leB n 4) q 4 = (xs.take q ++ leB n 4) ++ xs.drop (q + 4) := by
  unfold overAt
  rw [show (leB n 4).take 4 = leB n 4 from List.take_of_length_le (by rw [leB_len]; exact Nat.le_refl _)]

set_option maxHeartbeats 4000000 in
set_option maxRecDepth 100000 in
theorem vwshut_ok {w : World} {base b : Nat} {v o : Value} {s : WS} (h : VwIs w base b v o s) (hbase : base ≤ w.heap.size) (p : Int) (hp : I64 p) :
    Calls Tryd.prog 47 #[.pointer (some ⟨b, 0, none⟩), .int .i64 p] w fun r w' => r = .returned (.tuple #[]) ∧ VwGoes w w' base b v o (s.shut p) := by
  obtain ⟨i0, hi, hz0, hz1, hz2⟩ := info5z
  obtain ⟨j0, hj, jz0, jz1, jz2⟩ := info3w
  obtain ⟨hb, -, f1, f2, f3, z1, z2, z3⟩ := h.facts
  have H := Lib.hid h
  have HBASE := Lib.hid hbase
  by_cases hbad : s.bad = 0
  · have hb1 : (s.bad != 0) = false := by simp [hbad]
    have HBAD := Lib.hid hbad
    obtain ⟨n, hn⟩ : ∃ n, n = s.op.length := ⟨_, rfl⟩
    obtain ⟨L, hL⟩ : ∃ L, L = s.op.reverse := ⟨_, rfl⟩
    have hnL : L.length = n := by rw [hL, hn, List.length_reverse]
    have HNL := Lib.hid hnL
    have HLE := Lib.hid hL
    have HNE := Lib.hid hn
    have hn1 : n ≤ 67108864 := by have := h.fine.opens; have := h.fine.few; have := h.fine.l1; omega
    have HN1 := Lib.hid hn1
    have hor := h.orow
    rw [← hn, ← hL] at hor
    have HOR := Lib.hid hor
    obtain ⟨oO, cO, hvo, hoc1, hoc2, -⟩ := row_form hor
    obtain ⟨o1, c1, hvb, -⟩ := row_form h.row
    subst hvo
    subst hvb
    have HR0 := Lib.hid (nil_row w w.heap.size 3)
    unfold maxLen at hoc2
    clear h hbad hbase hn hL hnL hor z1 z2 z3 f1
    go_enter Tryd.func47, Tryd.ntmps47
    go_wp2
    go_loopg [4, 5, 6] n (fun g s4 s5 s6 wr => ∃ k : Nat, k + g = n ∧ s6 = .int .i64 k ∧ s5 = .bool (decide (p ∈ L.take k)) ∧ wr.ownsRow w.heap.size 3 1 s4 (notP (L.take k) p).length (i64s (notP (L.take k) p)) ∧ Chg (fun _ => False) w wr)
    case atStart => exact ⟨0, by omega, rfl, by simp, HR0.out, Chg.refl _ _⟩
    case round =>
      obtain ⟨k, hk, rfl, rfl, hrow, hc⟩ := hrel
      have HK := Lib.hid hk
      have HR := Lib.hid hrow
      have HC := Lib.hid hc
      obtain ⟨o3, c3, rfl, -⟩ := row_form hrow
      have hx := H.out.frame hc fun _ _ => id
      obtain ⟨yb, -, y1, y2, y3, q1, q2, q3⟩ := hx.facts
      have HX := Lib.hid hx
      have hfl := Lib.hid (Nat.le_trans (notP_len (L.take k) p) (List.length_take_le _ _))
      by_cases hlt : k < n
      · have hlt2 : (k : Int) < (n : Int) := by omega
        have HLT := Lib.hid hlt
        have hkL : k < L.length := by rw [HNL.out]; exact hlt
        obtain ⟨gO, cO', curO, hvo, -, -, -, -, -, hat⟩ := row_at (row_frame HOR.out hc fun _ _ => id) (by omega)
        simp only [Value.slice.injEq] at hvo
        obtain ⟨rfl, -, rfl⟩ := hvo
        have hcell := hat k (.int .i64 L[k]) (by rw [List.getElem?_map, List.getElem?_eq_getElem hkL]; rfl)
        have HTK := Lib.hid (show L.take (k + 1) = L.take k ++ [L[k]] from List.take_succ_eq_append_getElem hkL)
        generalize L[k] = x at *
        have hn1 := HN1.out
        clear hrow hc hx hk hlt hat q1 q2 q3 y1 y3 hkL
        cases hxp : (x == p) with
        | true =>
          have HF := Lib.hid (show notP (L.take (k + 1)) p = notP (L.take k) p by rw [HTK.out, notP_hit hxp])
          have HM := Lib.hid (show decide (p ∈ L.take (k + 1)) = true by rw [HTK.out]; simp at hxp; simp [hxp])
          go_wp2
          go_roundg (n - (k + 1))
          case measure => have := HLT.out; have := HK.out; omega
          case rel => exact ⟨k + 1, by have := HLT.out; omega, by go_num, by rw [HM.out], by rw [HF.out]; exact HR.out, HC.out⟩
        | false =>
          have HF := Lib.hid (show notP (L.take (k + 1)) p = notP (L.take k) p ++ [x] by rw [HTK.out, notP_miss hxp])
          have HM := Lib.hid (show decide (p ∈ L.take (k + 1)) = decide (p ∈ L.take k) by rw [HTK.out]; simp at hxp; simp [Ne.symm hxp])
          go_wp2_with (at_builtin; refine wpList_app rfl _ _ 45 rfl w.heap.size 3 j0 (.int .i64 0) 1 8 Tryd.underlying45 hj jz0 jz1 jz2 rfl (by decide) (.slice o3 (notP (L.take k) p).length c3) (notP (L.take k) p).length (i64s (notP (L.take k) p)) (by rfl) (row_frame HR.out ((Chg.refl (fun _ => False) wr).alloc _) fun _ _ => id) _ 1 1 [.int .i64 x] (by rfl) (SrcIs.some (by rfl) (by simp [Value.oneCell']) (World.news_of_block (heap_alloc_new _ _))) (fun h => by cases h) (by have := hfl.out; have := HLT.out; have := HN1.out; unfold maxLen; omega) (by have := hfl.out; have := HLT.out; have := HN1.out; omega) (by have := HC.out.size; simp; omega) ?_; intro v2 w3 hown hgrow hlie; have HO := Lib.hid hown; have HC3 := Lib.hid (Chg.of_grown hgrow); clear hown hgrow hlie)
          have E1 := Lib.hid (show w3.ownsRow w.heap.size 3 1 v2 (notP (L.take (k + 1)) p).length (i64s (notP (L.take (k + 1)) p)) by
            have := HO.out
            rw [HF.out, i64s, List.map_append, List.length_append]
            exact this)
          have E2 := Lib.hid (show Chg (fun _ => False) w w3 from ((HC.out.trans ((Chg.refl (fun _ => False) wr).alloc _) fun _ _ => id).step HC3.out (fun _ _ h => h) fun i hi h => by
            obtain ⟨hb, _⟩ := row_block HR.out h.symm
            omega))
          go_wp2
          go_roundg (n - (k + 1))
          case measure => have := HLT.out; have := HK.out; omega
          case rel => exact ⟨k + 1, by have := HLT.out; omega, by go_num, by rw [HM.out], E1.out, E2.out⟩
      · have hke : k = n := by omega
        subst hke
        have htk : L.take k = L := by rw [← HNL.out, List.take_length]
        rw [htk]
        rw [htk] at hrow
        have HRL := Lib.hid hrow
        have hmem : (p ∈ L) ↔ p ∈ s.op := by rw [HLE.out]; simp
        by_cases hin : p ∈ s.op
        · have hm1 : decide (p ∈ L) = true := decide_eq_true (hmem.2 hin)
          have hpl := H.out.fine.places p hin
          obtain ⟨q, rfl⟩ := Int.eq_ofNat_of_zero_le hpl.1
          have HN1' := HN1.out
          have HE := Lib.hid (show s.shut q = { s with op := s.op.erase q, xs := overAt s.xs (leB ((s.xs.length : Int) - (q : Int) - 4) 4) q 4 } by unfold WS.shut; rw [if_neg (by simpa using HBAD.out), if_pos hin]; rfl)
          have hrr : notP L q = (s.op.erase q).reverse := by rw [HLE.out]; exact notP_rev H.out.fine.nodup q
          have hrl : (notP L q).length = (s.op.erase q).length := by rw [hrr, List.length_reverse]
          have hlow : wr.ownsRow base 3 1 (.slice o3 (notP L q).length c3) (s.op.erase q).length (i64s (s.op.erase q).reverse) := by
            rw [← hrr, ← hrl]
            exact rowLow HRL.out HBASE.out
          have hk1 := H.out.setO' (op := s.op.erase q) HC.out hlow (fun g hg => (row_block HRL.out hg).1) (fun x hx => H.out.fine.places x (List.mem_of_mem_erase hx)) (H.out.fine.nodup.erase _)
          rw [hm1]
          have hnn : 0 ≤ (s.xs.length : Int) - (q : Int) - 4 := by omega
          have hf1 := H.out.fine.few
          have hf2 := H.out.fine.l1
          have HQ4 := Lib.hid hpl.2
          clear hrow hc hx hk hlt htk hmem hin hm1 hfl hrr hlow hpl
          go_upto_region 12 with (fail)
          obtain ⟨w1, hw1⟩ : ∃ w1, w1 = wr.setCell ⟨b, 2, none⟩ (.slice o3 (s.op.erase q).length c3) := ⟨_, rfl⟩
          rw [hrl] at hk1
          rw [← hw1] at hk1 ⊢
          clear hw1 y1 y2 y3 q1 q2 q3 yb hrl
          have HW1 := Lib.hid hk1.1
          have HC1 := Lib.hid hk1.2.1
          have HF1 := Lib.hid hk1.2.2
          obtain ⟨yb, -, y1, y2, y3, q1, q2, q3⟩ := HW1.out.facts
          obtain ⟨g, cap, cur, hv, hgb, hg2, hg3, hgbl, -, hgat⟩ := row_at HW1.out.row (by dsimp only; omega)
          dsimp only at hv hg2 hgat
          simp only [Value.slice.injEq] at hv
          obtain ⟨rfl, -, rfl⟩ := hv
          unfold maxLen at hg3
          obtain ⟨N, hN⟩ : ∃ N : Int, N = (s.xs.length : Int) - (q : Int) - 4 := ⟨_, rfl⟩
          have wk1 : IntKind.i64.wrap ((s.xs.length : Int) - (q : Int)) = (s.xs.length : Int) - (q : Int) := by rw [IntKind.wrap_i64]; omega
          have wk2 : IntKind.i64.wrap ((s.xs.length : Int) - (q : Int) - 4) = N := by rw [IntKind.wrap_i64]; omega
          have wk3 : IntKind.u64.wrap N = N := by rw [IntKind.wrap_u64]; omega
          have HNU := Lib.hid (number_ok (w := w1) N (by omega) (by omega) 4 (by omega))
          rw [← hN] at HE
          clear hgbl hgat hk1 hnn q2 q3 y2 y3 hN
          go_wp2_with fail
          refine HNU.out.mono ?_
          rintro e w2 ⟨v2, rfl, hrow2, hc2⟩
          obtain ⟨oN, cN, rfl, -⟩ := row_form hrow2
          have hby2 := row_bytes hrow2 (leB_byte N 4)
          have HR2 := Lib.hid hrow2
          have HC2 := Lib.hid hc2
          have HX2 := Lib.hid (HW1.out.frame hc2 fun _ _ => id)
          obtain ⟨yb, -, y1, -⟩ := HX2.out.facts
          try dsimp only at y1
          have HBY := Lib.hid H.out.fine.byte
          have HXS := Lib.hid (show w2.ownsRow base 5 1 (.slice (some ⟨g, 0, none⟩) s.xs.length c1) s.xs.length (u8s s.xs) from HX2.out.row)
          have hq0 := HQ4.out
          have S1 := Lib.hid (row_bytes (x := s.xs.take q) (by have := row_cut HXS.out (show q ≤ s.xs.length by omega); rw [Nat.mul_one, u8s, ← List.map_take] at this; exact this) (fun x hx => HBY.out x (List.mem_of_mem_take hx))).src
          have HN2 := Lib.hid (nil_row w2 w1.heap.size 5)
          have hqc : (q : Int) ≤ (c1 : Int) := by omega
          have hq4 : (q : Int) + 4 ≤ (s.xs.length : Int) := by omega
          have e1 : (s.xs.take q).length = q := by rw [List.length_take]; omega
          rw [e1] at S1
          have HF1' := Lib.hid (And.intro hf1 hf2)
          have HGC := Lib.hid (And.intro hg2 hg3)
          clear hrow2 hc2 HNU hby2 e1 wk1 wk2 wk3 f2 f3 hb
          go_upto_region 15 with (at_builtin; go_loud (refine wpList_app rfl _ _ 24 rfl w1.heap.size 5 i0 (.int .u8 0) 1 1 Tryd.underlying24 hi hz0 hz1 hz2 rfl (by decide) (.slice none 0 0) 0 [] (by rfl) HN2.out (some ⟨g, 0, none⟩) q c1 (u8s (s.xs.take q)) (by rfl) S1.out (fun h => by cases h) (by have := HF1'.out; have := HQ4.out; unfold maxLen; omega) (by have := HF1'.out; have := HQ4.out; omega) HC2.out.size ?_); intro v3 w3 hown hgrow hlie; have HR3 := Lib.hid (show w3.ownsRow w1.heap.size 5 1 v3 q (u8s (s.xs.take q)) by simpa using hown); have HC3 := Lib.hid (show Chg (fun _ => False) w2 w3 from (Chg.of_grown hgrow).mono fun _ _ h => by simp [Value.ownBlock] at h); clear hown hgrow hlie; obtain ⟨oa3, ca3, rfl, -⟩ := row_form HR3.out)
          have S2 := Lib.hid (row_bytes (x := leB N 4) (row_frame HR2.out HC3.out fun _ _ => id) (leB_byte N 4)).src
          have HC0N := Lib.hid (show oN = none → cN = 0 by obtain ⟨_, _, hv, _, _, hz, _⟩ := row_form HR2.out; simp only [Value.slice.injEq, true_and] at hv; obtain ⟨rfl, rfl⟩ := hv; exact fun e => (hz e).2)
          have e2 : (leB N 4).length = 4 := leB_len N 4
          rw [e2] at S2
          have HB3 := Lib.hid (Nat.le_trans HC2.out.size HC3.out.size)
          clear e2
          go_upto_region 16 with (at_builtin; go_loud (refine wpList_app rfl _ _ 24 rfl w1.heap.size 5 i0 (.int .u8 0) 1 1 Tryd.underlying24 hi hz0 hz1 hz2 rfl (by decide) (.slice oa3 q ca3) q (u8s (s.xs.take q)) (by rfl) HR3.out oN 4 cN (u8s (leB N 4)) (by rfl) S2.out HC0N.out (by have := HF1'.out; have := HQ4.out; unfold maxLen; omega) (by have := HF1'.out; have := HQ4.out; omega) HB3.out ?_); intro v4 w4 hown hgrow hlie; have HR4 := Lib.hid (show w4.ownsRow w1.heap.size 5 1 v4 (q + 4) (u8s (s.xs.take q ++ leB N 4)) by rw [u8s, List.map_append]; exact hown); have HC4 := Lib.hid (show Chg (fun _ => False) w1 w4 from (HC2.out.trans HC3.out fun _ _ => id).step (Chg.of_grown hgrow) (fun _ _ h => h) fun i hi h => by { obtain ⟨hb, _⟩ := row_block HR3.out h.symm; omega }); clear hown hgrow hlie; obtain ⟨oa4, ca4, rfl, -⟩ := row_form HR4.out)
          have HX4 := Lib.hid (HW1.out.frame HC4.out fun _ _ => id)
          obtain ⟨yb, -, y1, -, -, z1, -⟩ := HX4.out.facts
          try dsimp only at y1
          have HX4R := Lib.hid (show w4.ownsRow base 5 1 (.slice (some ⟨g, 0, none⟩) s.xs.length c1) s.xs.length (u8s s.xs) from HX4.out.row)
          obtain ⟨m, hm⟩ : ∃ m, m = s.xs.length - (q + 4) := ⟨_, rfl⟩
          have hdl : (s.xs.drop (q + 4)).length = m := by rw [List.length_drop, hm]
          have HDL := Lib.hid hdl
          have hq5 := HQ4.out
          have hf5 := HF1'.out
          have hg5 := HGC.out
          have wk4 : IntKind.i64.wrap ((q : Int) + 4) = (q : Int) + 4 := by rw [IntKind.wrap_i64]; omega
          have ek : (s.xs.length : Int) - ((q : Int) + 4) = (m : Int) := by omega
          have ek0 : (0 : Int) ≤ (q : Int) + 4 := by omega
          have ek1 : ((q : Int) + 4).toNat = q + 4 := by omega
          have ek2 : (q : Int) + 4 ≤ (s.xs.length : Int) := by omega
          have ek3 : (q : Int) + 4 ≤ (c1 : Int) := by omega
          have ek4 : s.xs.length - (q + 4) = m := hm.symm
          have HM5 := Lib.hid (show q + 4 + m ≤ 67108864 by omega)
          have FIN := Lib.hid (fun (v5 : Value) (w5 : World) (hr5 : w5.ownsRow w1.heap.size 5 1 v5 (q + 4 + m) (u8s (s.xs.take q ++ leB N 4) ++ u8s (s.xs.drop (q + 4)))) (hc5 : Chg (fun _ => False) w1 w5) => (show VwGoes w (w5.setCell ⟨b, 1, none⟩ v5) base b (.slice (some ⟨g, 0, none⟩) s.xs.length c1) (.slice oO k cO) (s.shut q) by
            have hy : ((s.xs.take q ++ leB N 4) ++ s.xs.drop (q + 4)).length = q + 4 + m := by
              rw [List.length_append, List.length_append, leB_len, List.length_take, HDL.out]; omega
            rw [HE.out, over_cat]
            refine VwGoes.after HC1.out HF1.out (HW1.out.setB (ys := (s.xs.take q ++ leB N 4) ++ s.xs.drop (q + 4)) (hc5.mono fun _ _ h => h.elim) ?_ ?_ ?_ ?_ ?_)
            · rw [hy, u8s, List.map_append]
              exact rowLow hr5 (Nat.le_trans HBASE.out HC1.out.size)
            · obtain ⟨g5, cap5, _, hv5, hb5, _⟩ := row_at hr5 (by omega)
              exact .inr ⟨g5, by rw [hv5]; rfl, hb5⟩
            · rw [← over_cat]
              exact overAt_byte HBY.out (leB_byte _ _) _ _
            · rw [hy]; dsimp only; omega
            · rw [hy]; dsimp only; omega))
          clear hq5 hf5 hg5 hdl hf1 hf2 hqc hq4 hg2 hg3
          by_cases hcp : c1 = q + 4
          · have hm0 : m = 0 := by have := HGC.out.1; omega
            subst hm0
            have S5 := Lib.hid (show SrcIs w4 1 (some ⟨g, 0, none⟩) 0 (u8s (s.xs.drop (q + 4))) by rw [List.eq_nil_of_length_eq_zero HDL.out]; exact SrcIs.some rfl (by simp) (by simp))
            clear hm
            go_wp2_with (at_builtin; go_loud (refine wpList_app rfl _ _ 24 rfl w1.heap.size 5 i0 (.int .u8 0) 1 1 Tryd.underlying24 hi hz0 hz1 hz2 rfl (by decide) (.slice oa4 (q + 4) ca4) (q + 4) (u8s (s.xs.take q ++ leB N 4)) (by rfl) HR4.out (some ⟨g, 0, none⟩) 0 0 (u8s (s.xs.drop (q + 4))) (by rfl) S5.out (fun h => by cases h) (by have := HM5.out; unfold maxLen; omega) (by have := HM5.out; omega) HC4.out.size ?_); intro v5 w5 hown hgrow hlie; have HR5 := Lib.hid hown; have HC5 := Lib.hid (show Chg (fun _ => False) w1 w5 from HC4.out.step (Chg.of_grown hgrow) (fun _ _ h => h) fun i hi h => by { obtain ⟨hb, _⟩ := row_block HR4.out h.symm; omega }); clear hown hgrow hlie; have hb5 := HC5.out.blk' HW1.out.st id; have y5 := cell_of_blk hb5 1; have z5 := frozen_of_blk hb5 1; have yb5 := blk_lt hb5; clear hb5; obtain ⟨oa5, ca5, rfl, -⟩ := row_form HR5.out)
            go_end0
            exact ⟨rfl, FIN.out _ _ HR5.out HC5.out⟩
          · have hcp' : ¬ (q + 4 = c1) := fun h => hcp h.symm
            have hcp2 : ¬ ((q : Int) + 4 = (c1 : Int)) := by omega
            have S5 := Lib.hid (show SrcIs w4 1 (some ⟨g, q + 4, none⟩) m (u8s (s.xs.drop (q + 4))) by
              have h1 := row_part (p := q + 4) (k := m) (oa' := some ⟨g, q + 4, none⟩) (c' := c1 - (q + 4)) HX4R.out HBY.out rfl (by omega) (by have := HGC.out.1; omega) (by have := HGC.out.2; unfold maxLen; omega) (fun h => by cases h) fun _ a h => by
                cases h
                rw [addr_add, Nat.zero_add]
              have h2 := h1.src
              rw [List.take_of_length_le (by rw [HDL.out]; exact Nat.le_refl _), HDL.out] at h2
              exact h2)
            clear hm
            go_wp2_with (at_builtin; go_loud (refine wpList_app rfl _ _ 24 rfl w1.heap.size 5 i0 (.int .u8 0) 1 1 Tryd.underlying24 hi hz0 hz1 hz2 rfl (by decide) (.slice oa4 (q + 4) ca4) (q + 4) (u8s (s.xs.take q ++ leB N 4)) (by rfl) HR4.out (some ⟨g, q + 4, none⟩) m (c1 - (q + 4)) (u8s (s.xs.drop (q + 4))) (by rfl) S5.out (fun h => by cases h) (by have := HM5.out; unfold maxLen; omega) (by have := HM5.out; omega) HC4.out.size ?_); intro v5 w5 hown hgrow hlie; have HR5 := Lib.hid hown; have HC5 := Lib.hid (show Chg (fun _ => False) w1 w5 from HC4.out.step (Chg.of_grown hgrow) (fun _ _ h => h) fun i hi h => by { obtain ⟨hb, _⟩ := row_block HR4.out h.symm; omega }); clear hown hgrow hlie; have hb5 := HC5.out.blk' HW1.out.st id; have y5 := cell_of_blk hb5 1; have z5 := frozen_of_blk hb5 1; have yb5 := blk_lt hb5; clear hb5; obtain ⟨oa5, ca5, rfl, -⟩ := row_form HR5.out)
            go_end0
            exact ⟨rfl, FIN.out _ _ HR5.out HC5.out⟩
        · have hm1 : decide (p ∈ L) = false := decide_eq_false fun h => hin (hmem.1 h)
          have HE := Lib.hid (show s.shut p = { s with bad := 10 } by unfold WS.shut WS.fail; rw [if_neg (by simpa using HBAD.out), if_neg hin, if_pos HBAD.out])
          rw [hm1]
          clear hrow hc hx hk hlt htk hmem hin hm1 hfl
          go_wp2
          refine bodyPost_ret (results_none rfl _ _ _) rfl ?_
          refine ⟨rfl, ?_⟩
          rw [HE.out]
          exact VwGoes.behind HC.out (HX.out.setBad 10)
  · have hb1 : (s.bad != 0) = true := by simp [hbad]
    have HE := Lib.hid (show s.shut p = s by unfold WS.shut; rw [if_pos hbad])
    clear h hbad
    go_enter Tryd.func47, Tryd.ntmps47
    go_wp2
    refine bodyPost_ret (results_none rfl _ _ _) rfl ?_
    exact ⟨rfl, by rw [HE.out]; exact H.out.stays (Chg.refl _ _)⟩
end Go.Proofs.YtfihpiommicdbaaDoor
