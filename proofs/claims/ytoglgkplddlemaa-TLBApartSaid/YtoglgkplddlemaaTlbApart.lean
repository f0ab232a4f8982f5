/- TLBApart: a flush of some cells changes nothing of the others' order; a TLB that was saved and loaded goes on as the one that was saved. No condition. -/
import Derived.Test.YtoglgkplddlemaaTlbR
import Derived.Deep.DeepCutAuto
import Derived.Deep.CutBlock
import Derived.Deep.CutRange
namespace Go.Proofs.Ytoglgkplddlemaa
open Go.RowKit Go.Cl Go.Shelf Go.Sort
open Go.Maps (Keyed)
set_option linter.unusedVariables false
set_option linter.unusedSimpArgs false
attribute [local go_sem] lt_add_one' blk_alloc_past blk_alloc_at blk_drew blk_setCell_ne

theorem lookV_cases (L : List En) (c p : Int) : (∃ f r, lookV L c p = .tuple #[.agg #[.int .u32 f, .int .u8 r], .bool true] ∧ (hitE L c p).isSome = true) ∨ (lookV L c p = .tuple #[.agg #[.int .u32 0, .int .u8 0], .bool false] ∧ hitE L c p = none) := by
  unfold lookV
  cases h : hitE L c p with
  | none => exact .inr ⟨rfl, rfl⟩
  | some e => exact .inl ⟨_, _, rfl, rfl⟩
theorem goneV_cases (o : Option En) : ∃ c p b, goneV o = .tuple #[.agg #[.int .i64 c, .int .u32 p], .bool b] := by
  cases o with
  | none => exact ⟨_, _, _, rfl⟩
  | some e => exact ⟨_, _, _, rfl⟩
theorem lookNow_le (L : List En) (c p now : Int) : now ≤ lookNow L c p now ∧ lookNow L c p now ≤ now + 1 := by
  unfold lookNow
  split <;> omega

theorem lookV_any (L : List En) (c p : Int) : ∃ f r bb, lookV L c p = .tuple #[.agg #[.int .u32 f, .int .u8 r], .bool bb] := by
  rcases lookV_cases L c p with ⟨f, r, h, -⟩ | ⟨h, -⟩
  · exact ⟨_, _, _, h⟩
  · exact ⟨_, _, _, h⟩
theorem load_good {v : Value} {L : List En} {sl : Int} {w : World} (h : SlotsAt w v L) (hok : ∀ e ∈ L, TagOk e.c e.p) (h1 : 1 ≤ sl) (h2 : sl ≤ 64) (hL : (L.length : Int) ≤ sl) (hlen : (useAll L.reverse).1.length = L.length) :
    Calls Try.prog 23 #[.int .i64 sl, v] w fun e w' => (∃ b m, e = .returned (.tuple #[.pointer (some ⟨b, 0, none⟩), .int .i64 0]) ∧ TlbIs w' b m sl L.length (useAll L.reverse).1 ∧ w.heap.size ≤ b ∧ w.heap.size ≤ m) ∧ Chg (fun _ => False) w w' :=
  (load_ok h hok h1 h2 hL).mono fun e w' hp => by
    unfold LoadPost at hp
    rw [if_pos hlen] at hp
    exact hp
theorem pre_filter {L : List En} (q : En → Bool) {i : Nat} {e : En} (he : L[i]? = some e) : (q e = true → ((L.take (i + 1)).filter q).length = ((L.take i).filter q).length + 1 ∧ (L.filter q)[((L.take i).filter q).length]? = some e) ∧ (q e = false → ((L.take (i + 1)).filter q).length = ((L.take i).filter q).length) := by
  have h1 : L.take (i + 1) = L.take i ++ [e] := by rw [List.take_add_one, he]; rfl
  refine ⟨fun hq => ?_, fun hq => ?_⟩
  · rw [h1, List.filter_append]
    have h2 : [e].filter q = [e] := by simp [hq]
    rw [h2]
    refine ⟨by simp, ?_⟩
    have hs : L = L.take i ++ e :: L.drop (i + 1) := by
      have hlt := (List.getElem?_eq_some_iff.1 he)
      obtain ⟨hlt, hge⟩ := hlt
      conv => lhs; rw [← List.take_append_drop i L]
      rw [List.drop_eq_getElem_cons hlt, hge]
    have h3 : L.filter q = (L.take i).filter q ++ e :: (L.drop (i + 1)).filter q := by
      conv => lhs; rw [hs]
      rw [List.filter_append, List.filter_cons_of_pos hq]
    rw [h3, List.getElem?_append_right (Nat.le_refl _), Nat.sub_self]
    rfl
  · rw [h1, List.filter_append]
    have h2 : [e].filter q = [] := by simp [hq]
    rw [h2, List.append_nil]
theorem pre_le {L : List En} (q : En → Bool) (i : Nat) : ((L.take i).filter q).length ≤ i := Nat.le_trans (List.length_filter_le _ _) (List.length_take_le _ _)

set_option maxHeartbeats 8000000 in
set_option maxRecDepth 100000 in
theorem apart_core (a0 : Int) (h0 : I64 a0) (us : List UseT) (oa : Option Addr) (cap : Nat) (xs : List Int) (ob : Option Addr) (cap2 : Nat) (ms : List UseT) (om : Option Addr) (cap3 : Nat) (w : World) (hU : USl w oa cap us) (hX : IntsSl w ob cap2 xs) (hXb : ∀ b o, ob = some ⟨b, o, none⟩ → xs ≠ [] → b < w.heap.size) (hM : USl w om cap3 ms) :
    Calls Try.prog 7 #[.int .i64 a0, .slice oa us.length cap, .slice ob xs.length cap2, .slice om ms.length cap3] w fun e w' => e = .returned (.bool true) ∧ Chg (fun _ => False) w w' := by
  have b0 := pickI_bd a0 64 (by omega)
  obtain ⟨n, hn⟩ : ∃ n : Nat, (n : Int) = pickI a0 64 := ⟨(pickI a0 64).toNat, by omega⟩
  have HPK := Lib.hid (fun (wy : World) => (by have h := pick_any a0 64 h0 (by omega) (by omega) wy; rw [← hn] at h; exact h : Calls Try.prog 10 #[.int .i64 a0, .int .i64 64] wy fun e w' => e = .returned (.int .i64 n) ∧ w' = wy))
  have hn64 : n < 64 := by omega
  have HU := Lib.hid hU
  have HX := Lib.hid hX
  have HXB := Lib.hid hXb
  have HM := Lib.hid hM
  have hul : us.length ≤ 9223372036854775807 := by have := hU.1; have := hU.2.1; unfold maxLen at this; omega
  have hxl : xs.length ≤ 9223372036854775807 := by have := hX.1; have := hX.2.1; unfold maxLen at this; omega
  have hml : ms.length ≤ 9223372036854775807 := by have := hM.1; have := hM.2.1; unfold maxLen at this; omega
  clear hU hX hXb hM b0 hn h0
  go_enter Try.func7, Try.ntmps7
  go_wp2_with (fail)
  refine (works_ok _).mono ?_
  rintro e w1 ⟨rfl, hc1⟩
  have HC1 := Lib.hid hc1
  clear hc1
  go_wp2_with (fail)
  refine (HPK.out _).mono ?_
  rintro e w2 ⟨rfl, rfl⟩
  go_wp2_with (fail)
  refine (new_ok (1 + (n : Int)) (by omega) (by omega) _).mono ?_
  rintro e w3 ⟨b, m, rfl, hT, hb, hm, hc⟩
  have HT := Lib.hid hT
  have HBM := Lib.hid (show w.heap.size ≤ b ∧ w.heap.size ≤ m from by have := HC1.out.size; omega)
  have HC3 := Lib.hid (HC1.out.trans hc fun _ _ => id)
  clear hT hb hm hc
  go_upto_block 0 with (fail)
  go_cut [13] from 57 to 85 (fun s13 wr => ∃ L now, TlbIs wr b m (1 + (n : Int)) now L ∧ now ≤ 600 ∧ Chg (fun i => i = b ∨ i = m) w3 wr)
  case first =>
    go_wp2
    go_loopg [13] us.length (fun g s13 wr => ∃ (i : Nat) (L : List En) (now : Int), i + g = us.length ∧ s13 = .int .i64 i ∧ i ≤ 300 ∧ TlbIs wr b m (1 + (n : Int)) now L ∧ now ≤ 2 * i ∧ Chg (fun i => i = b ∨ i = m) w3 wr)
    case atStart => exact ⟨0, [], 0, by omega, rfl, by omega, HT.out, by omega, Chg.refl _ _⟩
    case round =>
      obtain ⟨i, L, now, hig, rfl, h300, hTr, hnow, hc⟩ := hrel
      have HIG := Lib.hid hig
      have HTR := Lib.hid hTr
      have HC := Lib.hid hc
      have HCW := Lib.hid (show Chg (fun _ => False) w wr from HC3.out.trans hc fun i hi h => by have := HBM.out; omega)
      clear hTr hc
      by_cases hi1 : i < us.length
      · by_cases hi2 : i < 300
        · have hi1' : (i : Int) < (us.length : Int) := by omega
          have hi2' : (i : Int) < 300 := by omega
          obtain ⟨u, hu⟩ : ∃ u, us[i]? = some u := ⟨_, List.getElem?_eq_getElem hi1⟩
          obtain ⟨bu, ou, rfl, k0, k1, k2, hok⟩ := (uSl_chg HU.out HCW.out fun _ _ => id).2.2 i u hu
          have HTG := Lib.hid (fun (wy : World) => tag_any u.1 u.2.1 u.2.2 hok.1 hok.2.1 wy)
          have HTK := Lib.hid (tagOk_of u.1 u.2.1)
          obtain ⟨tc, htc⟩ : ∃ tc, tc = tagC u.1 := ⟨_, rfl⟩
          obtain ⟨tp, htp⟩ : ∃ tp, tp = tagP u.2.1 := ⟨_, rfl⟩
          rw [← htc, ← htp] at HTG HTK
          clear hu hok htc htp hig
          go_wp2_with (fail)
          refine (HTG.out _).mono ?_
          rintro e w4 ⟨rfl, hc4⟩
          go_upto_region 10 with (fail)
          obtain ⟨wk, hwk⟩ : ∃ wk, wk = w4.alloc (.cells #[.int .i64 tc, .int .u32 tp] 32 (0, 0)) := ⟨_, rfl⟩
          obtain ⟨KB, hKB⟩ : ∃ KB, KB = w4.heap.size := ⟨_, rfl⟩
          have hc4' : Chg (fun _ => False) wr w4 := hc4
          have hck : Chg (fun _ => False) wr wk := by rw [hwk]; exact hc4'.alloc _
          have hkb : blk wk KB = some (.cells #[.int .i64 tc, .int .u32 tp] 32 (0, 0)) := by rw [hwk, hKB]; exact blk_alloc_at _ _ _ rfl
          have HKBB := Lib.hid (show b < KB ∧ m < KB from by
            obtain ⟨-, -, h5, h6, -⟩ := (HTR.out.frame hc4' id id).facts
            omega)
          have HTK2 := Lib.hid (HTR.out.frame hck id id)
          have HCK := Lib.hid (show Chg (fun i => i = b ∨ i = m) w3 wk from HC.out.trans hck fun _ _ h => h.elim)
          have HKB := Lib.hid hkb
          have y0 := cell_of_blk hkb 0
          have y1 := cell_of_blk hkb 1
          rw [← hwk, ← hKB]
          clear hwk hKB hc4 hc4' hck hkb
          go_wp2_with (fail)
          refine (look_ok HTK2.out HTK.out (by omega)).mono ?_
          rintro e w5 ⟨rfl, hT5, hc5⟩
          have hN := lookNow_le L tc tp now
          have HT5 := Lib.hid hT5
          have HC5 := Lib.hid (HCK.out.trans hc5 fun _ _ h => h)
          have hkb5 := hc5.blk' HKB.out (by have := HKBB.out; omega)
          have HK5 := Lib.hid hkb5
          have y0' := cell_of_blk hkb5 0
          have y1' := cell_of_blk hkb5 1
          obtain ⟨hN1, hN2⟩ := hN
          rcases lookV_cases L tc tp with ⟨f, r, hV, -⟩ | ⟨hV, -⟩
          · rw [hV]
            clear hT5 hc5 hkb5 hV y0 y1 y0' y1'
            go_wp2
            go_roundg (gk - 1)
            case measure => have := HIG.out; omega
            case rel =>
              exact ⟨i + 1, _, _, by have := HIG.out; omega, by go_num, by omega, HT5.out.frame ((Chg.refl (fun _ => False) w5).alloc _) id id, by omega, HC5.out.alloc _⟩
          · rw [hV]
            clear hT5 hc5 hkb5 hV y0 y1
            go_upto_region 12 with (fail)
            obtain ⟨w6, hw6⟩ : ∃ w6, w6 = w5.alloc (.cells #[.int .u32 0, .int .u8 0] 38 (0, 0)) := ⟨_, rfl⟩
            have hc6 : Chg (fun _ => False) w5 w6 := by rw [hw6]; exact (Chg.refl _ _).alloc _
            have HT6 := Lib.hid (HT5.out.frame hc6 id id)
            have HC6 := Lib.hid (HC5.out.trans hc6 fun _ _ h => h.elim)
            have z0 := cell_frame hc6 (fun _ _ => id) y0'
            have z1 := cell_frame hc6 (fun _ _ => id) y1'
            have HP := Lib.hid (put_ok (f := (i : Int)) (r := 1) HT6.out HTK.out (by omega) (by omega))
            rw [← hw6]
            clear hw6 hc6 y0' y1'
            go_wp2_with (fail)
            refine HP.out.mono ?_
            rintro e w7 ⟨rfl, hT7, hc7⟩
            have HT7 := Lib.hid hT7
            have HC7 := Lib.hid (HC6.out.trans hc7 fun _ _ h => h)
            clear hT7 hc7
            go_wp2
            go_roundg (gk - 1)
            case measure => have := HIG.out; omega
            case rel => exact ⟨i + 1, _, _, by have := HIG.out; omega, by go_num, by omega, HT7.out, by omega, HC7.out⟩
        · have hi1' : (i : Int) < (us.length : Int) := by omega
          have hi2' : ¬ (i : Int) < 300 := by omega
          clear hig
          go_wp2
          go_meet
          case rel => exact ⟨L, now, HTR.out, by omega, HC.out⟩
      · have hi1' : ¬ (i : Int) < (us.length : Int) := by omega
        clear hig
        go_wp2
        go_meet
        case rel => exact ⟨L, now, HTR.out, by omega, HC.out⟩
  case rest =>
    obtain ⟨L, now, hTr, hnow, hc⟩ := hcut
    obtain ⟨wz, rfl⟩ : ∃ wz, wz = wc := ⟨_, rfl⟩
    have hfew : (L.length : Int) ≤ 1 + n := hTr.few
    have HTZ := Lib.hid hTr
    have HCZ := Lib.hid (show Chg (fun _ => False) w wz from HC3.out.trans hc fun i hi h => by have := HBM.out; omega)
    have HSL := Lib.hid (slots_ok hTr (by omega))
    clear hTr hc
    go_wp2_with (fail)
    refine HSL.out.mono ?_
    rintro e w4 ⟨v1, rfl, hr1, hc4⟩
    obtain ⟨o1, c1, rfl, -⟩ := row_form hr1
    have HR1 := Lib.hid hr1
    have HC4 := Lib.hid hc4
    obtain ⟨L1, hL1⟩ : ∃ L1, L1 = L.filter fun e => !cellsIn xs e := ⟨_, rfl⟩
    have hFC := flushCell_any (HTZ.out.frame hc4 id id) (intsSl_chg HX.out (HCZ.out.trans hc4 fun _ _ => id) fun _ _ _ => id) (fun hx b' o hb => by have := HXB.out b' o hb hx; have := HBM.out; omega) (by omega)
    rw [← hL1] at hFC
    have HFC := Lib.hid hFC
    have HL1 := Lib.hid hL1
    clear hr1 hc4 hL1 hFC HSL
    go_wp2_with (fail)
    refine HFC.out.mono ?_
    rintro e w5 ⟨rfl, hT5, hc5⟩
    have HT5 := Lib.hid hT5
    have HC5 := Lib.hid hc5
    have HR15 := Lib.hid (row_frame HR1.out hc5 fun g hg h => by
      obtain ⟨hb, _⟩ := row_block HR1.out hg
      obtain ⟨-, -, h5, h6, -⟩ := HTZ.out.facts
      omega)
    have hfew1 : (L1.length : Int) ≤ 1 + n := hT5.few
    have HSL := Lib.hid (slots_ok hT5 (by omega))
    clear hT5 hc5 HFC
    go_wp2_with (fail)
    refine HSL.out.mono ?_
    rintro e w6 ⟨v2, rfl, hr2, hc6⟩
    obtain ⟨o2, c2, rfl, -⟩ := row_form hr2
    have HS2 := Lib.hid (SlotsAt.row hr2 rfl)
    have HS1 := Lib.hid (SlotsAt.row (row_frame HR15.out hc6 fun _ _ => id) rfl)
    have HC6 := Lib.hid (show Chg (fun i => i = b ∨ i = m) wz w6 from ((HC4.out.mono (fun (i : Nat) _ (h : False) => (show i = b ∨ i = m from h.elim))).trans HC5.out fun _ _ h => h).trans hc6 fun _ _ h => h.elim)
    have HT6 := Lib.hid (HT5.out.frame hc6 id id)
    clear hr2 hc6 HSL
    go_wp2
    go_loopg [18, 20, 21] L.length (fun g s18 s20 s21 wr => ∃ i : Nat, i + g = L.length ∧ s21 = .int .i64 i ∧ s20 = .int .i64 (((L.take i).filter fun e => !cellsIn xs e).length : Nat) ∧ s18 = .int .i64 ((L.length : Int) - L1.length - ((i : Int) - (((L.take i).filter fun e => !cellsIn xs e).length : Nat))) ∧ Chg (fun _ => False) w6 wr)
    case atStart => exact ⟨0, by omega, rfl, by simp, by simp, Chg.refl _ _⟩
    case round =>
      obtain ⟨i, hig, rfl, rfl, rfl, hch⟩ := hrel
      obtain ⟨wA, rfl⟩ : ∃ wA, wA = wr := ⟨_, rfl⟩
      have HIG := Lib.hid hig
      have HCH := Lib.hid hch
      clear hch
      have hpl := pre_le (L := L) (fun e => !cellsIn xs e) i
      cases gk with
      | zero =>
        have hil : ¬ (i : Int) < (L.length : Int) := by omega
        have hit : L.take i = L := List.take_of_length_le (by omega)
        rw [hit, ← HL1.out]
        have hk0 : (L.length : Int) - L1.length - ((i : Int) - L1.length) = 0 := by omega
        rw [hk0]
        have hLK : Like (useAll L1.reverse).1 L1 := useAll_rev HT6.out.once
        have hlen : (useAll L1.reverse).1.length = L1.length := hLK.length
        have HLK := Lib.hid hLK
        have hLD := load_good (HS2.out.frame HCH.out fun _ _ => id) HT6.out.tags (by omega) (by omega) hfew1 hlen
        have HLD := Lib.hid hLD
        have HT7 := Lib.hid (HT6.out.frame HCH.out id id)
        have HC7 := Lib.hid (HC6.out.trans HCH.out fun _ _ h => h.elim)
        clear hig hit hk0 hLK hlen hLD
        go_wp2_with (fail)
        refine HLD.out.mono ?_
        rintro e w8 ⟨⟨b', m', rfl, hT8, hb', hm'⟩, hc8⟩
        have HT8 := Lib.hid hT8
        have HT7' := Lib.hid (HT7.out.frame hc8 id id)
        have HNE := Lib.hid (show b < b' ∧ m < b' ∧ b < m' ∧ m < m' from by
          obtain ⟨-, -, h5, h6, -⟩ := HT7.out.facts
          omega)
        have HC8 := Lib.hid (HC7.out.trans hc8 fun _ _ h => h.elim)
        clear hT8 hb' hm' hc8 HLD
        go_upto_block 6 with (fail)
        go_cut [26] from 161 to 219 (fun s26 wr => ∃ LA LB nA nB, TlbIs wr b m (1 + (n : Int)) nA LA ∧ TlbIs wr b' m' (1 + (n : Int)) nB LB ∧ Like LA LB ∧ Chg (fun i => (i = b ∨ i = m) ∨ (i = b' ∨ i = m')) w8 wr)
        case first =>
          go_wp2
          go_loopg [26] ms.length (fun g s26 wr => ∃ (i : Nat) (LA LB : List En) (nA nB : Int), i + g = ms.length ∧ s26 = .int .i64 i ∧ i ≤ 200 ∧ TlbIs wr b m (1 + (n : Int)) nA LA ∧ TlbIs wr b' m' (1 + (n : Int)) nB LB ∧ Like LA LB ∧ nA ≤ 600 + 2 * i ∧ nB ≤ 64 + 2 * i ∧ Chg (fun i => (i = b ∨ i = m) ∨ (i = b' ∨ i = m')) w8 wr)
          case atStart => exact ⟨0, _, _, now, _, by omega, rfl, by omega, HT7'.out, HT8.out, HLK.out.symm, by omega, by omega, Chg.refl _ _⟩
          case round =>
            obtain ⟨i, LA, LB, nA, nB, hig, rfl, h200, hA, hB, hl, hnA, hnB, hc⟩ := hrel
            obtain ⟨wB, rfl⟩ : ∃ wB, wB = wr := ⟨_, rfl⟩
            have HIG := Lib.hid hig
            have HA := Lib.hid hA
            have HB := Lib.hid hB
            have HLL := Lib.hid hl
            have HC := Lib.hid hc
            have HCW := Lib.hid (show Chg (fun _ => False) w wB from (HCZ.out.trans HC8.out fun i hi h => by have := HBM.out; omega).trans hc fun i hi h => by have := HBM.out; have := HNE.out; omega)
            have HN2 := Lib.hid (And.intro hnA hnB)
            clear hA hB hl hc
            by_cases hi1 : i < ms.length
            · by_cases hi2 : i < 200
              · have hi1' : (i : Int) < (ms.length : Int) := by omega
                have hi2' : (i : Int) < 200 := by omega
                obtain ⟨u, hu⟩ : ∃ u, ms[i]? = some u := ⟨_, List.getElem?_eq_getElem hi1⟩
                obtain ⟨bu, ou, rfl, k0, k1, k2, hok⟩ := (uSl_chg HM.out HCW.out fun _ _ => id).2.2 i u hu
                have HTG := Lib.hid (fun (wy : World) => tag_any u.1 u.2.1 u.2.2 hok.1 hok.2.1 wy)
                have HTK := Lib.hid (tagOk_of u.1 u.2.1)
                obtain ⟨tc, htc⟩ : ∃ tc, tc = tagC u.1 := ⟨_, rfl⟩
                obtain ⟨tp, htp⟩ : ∃ tp, tp = tagP u.2.1 := ⟨_, rfl⟩
                rw [← htc, ← htp] at HTG HTK
                clear hu hok htc htp hig hnA hnB
                go_wp2_with (fail)
                refine (HTG.out _).mono ?_
                rintro e w9 ⟨rfl, hc9⟩
                go_upto_region 37 with (fail)
                obtain ⟨wk, hwk⟩ : ∃ wk, wk = w9.alloc (.cells #[.int .i64 tc, .int .u32 tp] 32 (0, 0)) := ⟨_, rfl⟩
                obtain ⟨KB, hKB⟩ : ∃ KB, KB = w9.heap.size := ⟨_, rfl⟩
                have hck : Chg (fun _ => False) wB wk := by rw [hwk]; exact hc9.alloc _
                have hkb : blk wk KB = some (.cells #[.int .i64 tc, .int .u32 tp] 32 (0, 0)) := by rw [hwk, hKB]; exact blk_alloc_at _ _ _ rfl
                have HKBB := Lib.hid (show b < KB ∧ m < KB ∧ b' < KB ∧ m' < KB from by
                  obtain ⟨-, -, h5, h6, -⟩ := (HA.out.frame hc9 id id).facts
                  obtain ⟨-, -, h7, h8, -⟩ := (HB.out.frame hc9 id id).facts
                  omega)
                have HAk := Lib.hid (HA.out.frame hck id id)
                have HBk := Lib.hid (HB.out.frame hck id id)
                have HKB := Lib.hid hkb
                have HCk := Lib.hid (HC.out.trans hck fun _ _ h => h.elim)
                have y0 := cell_of_blk hkb 0
                have y1 := cell_of_blk hkb 1
                rw [← hwk, ← hKB]
                clear hwk hKB hc9 hck hkb k0 k1 k2
                go_wp2_with (fail)
                refine (look_ok HAk.out HTK.out (by have := HN2.out; omega)).mono ?_
                rintro e w10 ⟨rfl, hA10, hc10⟩
                obtain ⟨f, r, bb, hV⟩ := lookV_any LA tc tp
                have hV2 := (HLL.out.lookV tc tp).symm.trans hV
                rw [hV]
                have HA10 := Lib.hid hA10
                have HB10 := Lib.hid (HBk.out.frame hc10 (by have := HNE.out; omega) (by have := HNE.out; omega))
                have HK10 := Lib.hid (hc10.blk' HKB.out (by have := HKBB.out; omega))
                have HC10 := Lib.hid (HCk.out.trans hc10 fun _ _ h => .inl h)
                clear hA10 hc10 y0 y1 hV
                go_upto_region 38 with (fail)
                obtain ⟨w11, hw11⟩ : ∃ w11, w11 = w10.alloc (.cells #[.int .u32 f, .int .u8 r] 38 (0, 0)) := ⟨_, rfl⟩
                obtain ⟨K1, hK1⟩ : ∃ K1, K1 = w10.heap.size := ⟨_, rfl⟩
                have hc11 : Chg (fun _ => False) w10 w11 := by rw [hw11]; exact (Chg.refl _ _).alloc _
                have hk1 : blk w11 K1 = some (.cells #[.int .u32 f, .int .u8 r] 38 (0, 0)) := by rw [hw11, hK1]; exact blk_alloc_at _ _ _ rfl
                have HK1 := Lib.hid hk1
                have HKL1 := Lib.hid (show b' < K1 ∧ m' < K1 from by
                  obtain ⟨-, -, h7, h8, -⟩ := HB10.out.facts
                  omega)
                have HA11 := Lib.hid (HA10.out.frame hc11 id id)
                have HB11 := Lib.hid (HB10.out.frame hc11 id id)
                have HK11 := Lib.hid (hc11.blk' HK10.out id)
                have HC11 := Lib.hid (HC10.out.trans hc11 fun _ _ h => h.elim)
                have y0 := cell_of_blk HK11.out 0
                have y1 := cell_of_blk HK11.out 1
                rw [← hw11, ← hK1]
                clear hw11 hK1 hc11 hk1
                go_wp2_with (fail)
                refine (look_ok HB11.out HTK.out (by have := HN2.out; omega)).mono ?_
                rintro e w12 ⟨rfl, hB12, hc12⟩
                rw [hV2]
                have HB12 := Lib.hid hB12
                have HA12 := Lib.hid (HA11.out.frame hc12 (by have := HNE.out; omega) (by have := HNE.out; omega))
                have HK12 := Lib.hid (hc12.blk' HK11.out (by have := HKBB.out; omega))
                have HK112 := Lib.hid (hc12.blk' HK1.out (by have := HKL1.out; omega))
                have HC12 := Lib.hid (HC11.out.trans hc12 fun _ _ h => .inr h)
                clear hB12 hc12 y0 y1 hV2
                go_upto_region 39 with (fail)
                obtain ⟨w13, hw13⟩ : ∃ w13, w13 = w12.alloc (.cells #[.int .u32 f, .int .u8 r] 38 (0, 0)) := ⟨_, rfl⟩
                obtain ⟨K2, hK2⟩ : ∃ K2, K2 = w12.heap.size := ⟨_, rfl⟩
                have hc13 : Chg (fun _ => False) w12 w13 := by rw [hw13]; exact (Chg.refl _ _).alloc _
                have hk2 : blk w13 K2 = some (.cells #[.int .u32 f, .int .u8 r] 38 (0, 0)) := by rw [hw13, hK2]; exact blk_alloc_at _ _ _ rfl
                have HA13 := Lib.hid (HA12.out.frame hc13 id id)
                have HB13 := Lib.hid (HB12.out.frame hc13 id id)
                have HK13 := Lib.hid (hc13.blk' HK12.out id)
                have HC13 := Lib.hid (HC12.out.trans hc13 fun _ _ h => h.elim)
                have x0 := cell_of_blk hk2 0
                have x1 := cell_of_blk hk2 1
                have z0 := cell_of_blk (hc13.blk' HK112.out id) 0
                have z1 := cell_of_blk (hc13.blk' HK112.out id) 1
                have y0 := cell_of_blk HK13.out 0
                have y1 := cell_of_blk HK13.out 1
                have HLK2 := Lib.hid (HLL.out.lookL tc tp nA nB)
                have HNA := Lib.hid (And.intro (lookNow_le LA tc tp nA) (lookNow_le LB tc tp nB))
                rw [← hw13, ← hK2]
                clear hw13 hK2 hc13 hk2
                have hbb : (bb != bb) = false := by simp
                cases bb with
                | true =>
                  go_wp2
                  go_roundg (gk - 1)
                  case measure => have := HIG.out; omega
                  case rel => exact ⟨i + 1, _, _, _, _, by have := HIG.out; omega, by go_num, by omega, HA13.out, HB13.out, HLK2.out, by have := HN2.out; have := HNA.out; omega, by have := HN2.out; have := HNA.out; omega, HC13.out⟩
                | false =>
                  have HPA := Lib.hid (put_ok (f := 9) (r := 0) HA13.out HTK.out (by omega) (by have := HN2.out; have := HNA.out; omega))
                  go_wp2_with (fail)
                  refine HPA.out.mono ?_
                  rintro e w14 ⟨rfl, hA14, hc14⟩
                  have HPL := Lib.hid (HLK2.out.put (1 + (n : Int)) tc tp 9 0 (lookNow LA tc tp nA) (lookNow LB tc tp nB))
                  obtain ⟨gc, gp, gb, hG⟩ := goneV_cases (putL (lookL LA tc tp nA) (1 + (n : Int)) tc tp 9 0 (lookNow LA tc tp nA)).2
                  have hG2 := HPL.out.2.symm.trans hG
                  rw [hG]
                  have HA14 := Lib.hid hA14
                  have HB14 := Lib.hid (HB13.out.frame hc14 (by have := HNE.out; omega) (by have := HNE.out; omega))
                  have HK14 := Lib.hid (hc14.blk' HK13.out (by have := HKBB.out; omega))
                  have HC14 := Lib.hid (HC13.out.trans hc14 fun _ _ h => .inl h)
                  clear hA14 hc14 y0 y1 z0 z1 x0 x1 hG
                  go_upto_region 43 with (fail)
                  obtain ⟨w15, hw15⟩ : ∃ w15, w15 = w14.alloc (.cells #[.int .i64 gc, .int .u32 gp] 32 (0, 0)) := ⟨_, rfl⟩
                  obtain ⟨K3, hK3⟩ : ∃ K3, K3 = w14.heap.size := ⟨_, rfl⟩
                  have hc15 : Chg (fun _ => False) w14 w15 := by rw [hw15]; exact (Chg.refl _ _).alloc _
                  have hk3 : blk w15 K3 = some (.cells #[.int .i64 gc, .int .u32 gp] 32 (0, 0)) := by rw [hw15, hK3]; exact blk_alloc_at _ _ _ rfl
                  have HK3 := Lib.hid hk3
                  have HKL3 := Lib.hid (show b' < K3 ∧ m' < K3 from by
                    obtain ⟨-, -, h7, h8, -⟩ := HB14.out.facts
                    omega)
                  have HA15 := Lib.hid (HA14.out.frame hc15 id id)
                  have HK15 := Lib.hid (hc15.blk' HK14.out id)
                  have HC15 := Lib.hid (HC14.out.trans hc15 fun _ _ h => h.elim)
                  have y0 := cell_of_blk HK15.out 0
                  have y1 := cell_of_blk HK15.out 1
                  have HPB := Lib.hid (put_ok (f := 9) (r := 0) (HB14.out.frame hc15 id id) HTK.out (by omega) (by have := HN2.out; have := HNA.out; omega))
                  rw [← hw15, ← hK3]
                  clear hw15 hK3 hc15 hk3
                  go_wp2_with (fail)
                  refine HPB.out.mono ?_
                  rintro e w16 ⟨rfl, hB16, hc16⟩
                  rw [hG2]
                  have HB16 := Lib.hid hB16
                  have HA16 := Lib.hid (HA15.out.frame hc16 (by have := HNE.out; omega) (by have := HNE.out; omega))
                  have HK316 := Lib.hid (hc16.blk' HK3.out (by have := HKL3.out; omega))
                  have HC16 := Lib.hid (HC15.out.trans hc16 fun _ _ h => .inr h)
                  clear hB16 hc16 y0 y1 hG2
                  go_upto_region 44 with (fail)
                  obtain ⟨w17, hw17⟩ : ∃ w17, w17 = w16.alloc (.cells #[.int .i64 gc, .int .u32 gp] 32 (0, 0)) := ⟨_, rfl⟩
                  obtain ⟨K4, hK4⟩ : ∃ K4, K4 = w16.heap.size := ⟨_, rfl⟩
                  have hc17 : Chg (fun _ => False) w16 w17 := by rw [hw17]; exact (Chg.refl _ _).alloc _
                  have hk4 : blk w17 K4 = some (.cells #[.int .i64 gc, .int .u32 gp] 32 (0, 0)) := by rw [hw17, hK4]; exact blk_alloc_at _ _ _ rfl
                  have HA17 := Lib.hid (HA16.out.frame hc17 id id)
                  have HB17 := Lib.hid (HB16.out.frame hc17 id id)
                  have HC17 := Lib.hid (HC16.out.trans hc17 fun _ _ h => h.elim)
                  have x0 := cell_of_blk hk4 0
                  have x1 := cell_of_blk hk4 1
                  have z0 := cell_of_blk (hc17.blk' HK316.out id) 0
                  have z1 := cell_of_blk (hc17.blk' HK316.out id) 1
                  have hgg : (gb != gb) = false := by simp
                  rw [← hw17, ← hK4]
                  clear hw17 hK4 hc17 hk4
                  go_wp2
                  go_roundg (gk - 1)
                  case measure => have := HIG.out; omega
                  case rel => exact ⟨i + 1, _, _, _, _, by have := HIG.out; omega, by go_num, by omega, HA17.out, HB17.out, HPL.out.1, by have := HN2.out; have := HNA.out; omega, by have := HN2.out; have := HNA.out; omega, HC17.out⟩
              · have hi1' : (i : Int) < (ms.length : Int) := by omega
                have hi2' : ¬ (i : Int) < 200 := by omega
                clear hig
                go_wp2
                go_meet
                case rel => exact ⟨LA, LB, nA, nB, HA.out, HB.out, HLL.out, HC.out⟩
            · have hi1' : ¬ (i : Int) < (ms.length : Int) := by omega
              clear hig
              go_wp2
              go_meet
              case rel => exact ⟨LA, LB, nA, nB, HA.out, HB.out, HLL.out, HC.out⟩
        case rest =>
          obtain ⟨LA, LB, nA, nB, hA, hB, hl, hc⟩ := hcut
          have HA := Lib.hid hA
          have HB := Lib.hid hB
          have HLL := Lib.hid hl
          have HCE := Lib.hid ((HC8.out.mono (fun i _ h => (show (i = b ∨ i = m) ∨ (i = b' ∨ i = m') from .inl h))).trans hc fun _ _ h => h)
          have HSA := Lib.hid (slots_ok hA (by have := hA.few; omega))
          clear hA hB hl hc
          go_wp2_with (fail)
          refine HSA.out.mono ?_
          rintro e w9 ⟨v3, rfl, hr3, hc9⟩
          have HS3 := Lib.hid (SlotsAt.row hr3 rfl)
          have HC9 := Lib.hid hc9
          obtain ⟨o3, c3, rfl, -⟩ := row_form hr3
          have HSB := Lib.hid (slots_ok (HB.out.frame hc9 id id) (by have := HB.out.few; omega))
          clear hr3 hc9 HSA
          go_wp2_with (fail)
          refine HSB.out.mono ?_
          rintro e w10 ⟨v4, rfl, hr4, hc10⟩
          have HS4 := Lib.hid (SlotsAt.row hr4 rfl)
          obtain ⟨o4, c4, rfl, -⟩ := row_form hr4
          have HC10 := Lib.hid (HC9.out.trans hc10 fun _ _ => id)
          have hSM := sameSlots_ok (HS3.out.frame hc10 fun _ _ => id) HS4.out
          rw [decide_eq_true (p := LA.map tm = LB.map tm) HLL.out] at hSM
          have HSM := Lib.hid hSM
          clear hr4 hc10 HSB hSM
          go_wp2_with (fail)
          refine HSM.out.mono ?_
          rintro e w11 ⟨rfl, hc11⟩
          have HC11 := Lib.hid hc11
          clear hc11
          go_wp2
          go_ret
          refine ⟨rfl, ((HCZ.out.trans HCE.out fun i hi h => ?_).trans HC10.out fun _ _ => id).trans HC11.out fun _ _ => id⟩
          have := HBM.out
          have := HNE.out
          omega
      | succ g =>
        have hil : i < L.length := by omega
        have hil2 : (i : Int) < (L.length : Int) := by omega
        obtain ⟨e, he⟩ : ∃ e, L[i]? = some e := ⟨_, List.getElem?_eq_getElem hil⟩
        obtain ⟨PF1, PF2⟩ := pre_filter (fun e => !cellsIn xs e) he
        rw [← HL1.out] at PF1
        have HPF := Lib.hid (And.intro PF1 PF2)
        obtain ⟨cn, hcn⟩ : ∃ cn, cn = ((L.take i).filter fun e => !cellsIn xs e).length := ⟨_, rfl⟩
        have HCN := Lib.hid hcn
        rw [← hcn] at hpl HPF ⊢
        obtain ⟨oa', c', hv, -, -, hat⟩ := HS1.out
        cases hv
        obtain ⟨be, oe, rfl, k0, k1, k2, k3⟩ := hat i e he
        have k0 := cell_frame HCH.out (fun _ _ => id) k0
        have k1 := cell_frame HCH.out (fun _ _ => id) k1
        have k2 := cell_frame HCH.out (fun _ _ => id) k2
        have k3 := cell_frame HCH.out (fun _ _ => id) k3
        have HK := Lib.hid (And.intro k0 (And.intro k1 (And.intro k2 k3)))
        obtain ⟨ec, hec⟩ : ∃ ec, ec = e.c := ⟨_, rfl⟩
        have HEC := Lib.hid hec
        clear hat k0 k1 k2 k3 he PF1 PF2 hcn hig hec
        go_wp2
        go_loopg [22, 23] xs.length (fun g2 s22 s23 wr => ∃ j : Nat, j + g2 = xs.length ∧ s23 = .int .i64 j ∧ s22 = .bool (decide (ec ∈ xs.take j)) ∧ Chg (fun _ => False) wA wr)
        case atStart => exact ⟨0, by omega, rfl, by simp, Chg.refl _ _⟩
        case round =>
          obtain ⟨j, hjg, rfl, rfl, hcj⟩ := hrel
          have HJG := Lib.hid hjg
          have HCJ := Lib.hid hcj
          have k0 := cell_frame hcj (fun _ _ => id) HK.out.1
          rw [← HEC.out] at k0
          clear hcj
          cases gk with
          | zero =>
            have hjl : ¬ (j : Int) < (xs.length : Int) := by omega
            have hjt : xs.take j = xs := List.take_of_length_le (by omega)
            rw [hjt]
            by_cases hin : ec ∈ xs
            · have hci : (!cellsIn xs e) = false := by simp [cellsIn, ← HEC.out, hin]
              have hp := HPF.out.2 hci
              have HP := Lib.hid hp
              rw [decide_eq_true hin]
              clear hjg hjt hin hci hp
              go_wp2
              go_roundg g
              case measure => omega
              case rel => exact ⟨i + 1, by have := HIG.out; omega, by go_num, by rw [HP.out], by rw [HP.out]; refine congrArg (Value.int .i64) ?_; omega, HCH.out.trans HCJ.out fun _ _ => id⟩
            · have hci : (!cellsIn xs e) = true := by simp [cellsIn, ← HEC.out, hin]
              obtain ⟨hp, hat2⟩ := HPF.out.1 hci
              have HP := Lib.hid hp
              obtain ⟨oa2, c2', hv2, -, -, hat3⟩ := HS2.out
              cases hv2
              obtain ⟨bf, of_, rfl, q0, q1, q2, q3⟩ := hat3 cn e hat2
              have hlt2 : ¬ (cn : Int) ≥ (L1.length : Int) := by
                have := (List.getElem?_eq_some_iff.1 hat2).1
                omega
              have CJ := HCH.out.trans HCJ.out fun _ _ => id
              have q0 := cell_frame CJ (fun _ _ => id) q0
              have q1 := cell_frame CJ (fun _ _ => id) q1
              have q2 := cell_frame CJ (fun _ _ => id) q2
              have q3 := cell_frame CJ (fun _ _ => id) q3
              have k1 := cell_frame HCJ.out (fun _ _ => id) HK.out.2.1
              have k2 := cell_frame HCJ.out (fun _ _ => id) HK.out.2.2.1
              have k3 := cell_frame HCJ.out (fun _ _ => id) HK.out.2.2.2
              rw [← HEC.out] at q0
              rw [decide_eq_false hin]
              have hcl : cn < L1.length := (List.getElem?_eq_some_iff.1 hat2).1
              obtain ⟨ec', ep, ef, er, eu⟩ := e
              dsimp only at q0 q1 q2 q3 k0 k1 k2 k3
              clear hjg hjt hin hci hp hat2 hat3 CJ
              go_wp2
              go_quiet (fail)
              go_wp2
              go_roundg g
              case measure => omega
              case rel => exact ⟨i + 1, by have := HIG.out; omega, by go_num, by rw [HP.out]; refine congrArg (Value.int .i64) ?_; omega, by rw [HP.out]; refine congrArg (Value.int .i64) ?_; omega, chg_drewN' (HCH.out.trans HCJ.out fun _ _ => id) _⟩
          | succ g2 =>
            have hjl : j < xs.length := by omega
            have hjl2 : (j : Int) < (xs.length : Int) := by omega
            obtain ⟨x, hx⟩ : ∃ x, xs[j]? = some x := ⟨_, List.getElem?_eq_getElem hjl⟩
            obtain ⟨bx, ox, rfl, cx, hx64⟩ := HX.out.2.2 j x hx
            have CX := Lib.hid ((HCZ.out.trans HC6.out fun i hi h => by have := HBM.out; omega).trans (HCH.out.trans HCJ.out fun _ _ => id) fun _ _ => id)
            have cx := cell_frame CX.out (fun _ _ => id) cx
            have htk : xs.take (j + 1) = xs.take j ++ [x] := by rw [List.take_add_one, hx]; rfl
            have HTK := Lib.hid htk
            have hdec : decide (ec ∈ xs.take (j + 1)) = (decide (ec ∈ xs.take j) || decide (x = ec)) := by
              rw [htk]
              simp [List.mem_append, eq_comm]
            have HDEC := Lib.hid hdec
            obtain ⟨bin, hbin⟩ : ∃ bin, bin = decide (ec ∈ xs.take j) := ⟨_, rfl⟩
            rw [← hbin] at HDEC ⊢
            clear hx htk hdec hjg hbin
            cases bin with
            | true =>
              go_wp2
              go_quiet (fail)
              go_wp2
              go_roundg g2
              case measure => omega
              case rel => exact ⟨j + 1, by have := HJG.out; omega, by go_num, by rw [HDEC.out]; rfl, chg_drewN' HCJ.out _⟩
            | false =>
              by_cases hxe : x = ec
              · subst hxe
                go_wp2
                go_quiet (fail)
                go_wp2
                go_roundg g2
                case measure => omega
                case rel => exact ⟨j + 1, by have := HJG.out; omega, by go_num, by rw [HDEC.out]; simp, chg_drewN' HCJ.out _⟩
              · have HXE := Lib.hid hxe
                go_wp2
                go_quiet (fail)
                go_wp2
                go_roundg g2
                case measure => omega
                case rel => exact ⟨j + 1, by have := HJG.out; omega, by go_num, by rw [HDEC.out]; simp [HXE.out], chg_drewN' HCJ.out _⟩

theorem apart_walk (w : World) (a0 : Int) (w0 : (Lit.int .i64 a0).wf = true) {v1 : Value} (h1 : ∃ us, UsesAre w v1 us) {v2 : Value} (h2 : ∃ xs, NumsAre .i64 w v2 xs) {v3 : Value} (h3 : ∃ us, UsesAre w v3 us) :
    Calls Try.prog 7 #[.int .i64 a0, v1, v2, v3] w fun e w' => e = .returned (.bool true) ∧ Below w.heap.size w w' := by
  obtain ⟨us, hu⟩ := h1
  obtain ⟨xs, hx⟩ := h2
  obtain ⟨ms, hm⟩ := h3
  obtain ⟨oa, cap, rfl, hU⟩ := uSl_of hu
  obtain ⟨ob, cap2, rfl, hX, hXb⟩ := ints_sl hx
  obtain ⟨om, cap3, rfl, hM⟩ := uSl_of hm
  exact (apart_core a0 (i64_of w0) us oa cap xs ob cap2 ms om cap3 w hU hX hXb hM).mono fun e w' h => ⟨h.1, h.2.below (Nat.le_refl _) (by simp)⟩
end Go.Proofs.Ytoglgkplddlemaa
