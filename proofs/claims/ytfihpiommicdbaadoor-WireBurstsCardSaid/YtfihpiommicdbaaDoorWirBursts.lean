/- WireBursts: a run of at most 32 turned bits, of which the first one is, changes the sum: for every input. No condition but the table's place. -/
import Derived.Test.YtfihpiommicdbaaDoorWirJ
import Derived.Test.YtfihpiommicdbaaDoorWirU
import Derived.Deep.RegionLaw
import Derived.BigRegion
namespace Go.Proofs.YtfihpiommicdbaaDoor
open Go.RowKit Go.Cl
set_option linter.unusedVariables false
set_option linter.unusedSimpArgs false
attribute [local go_sem] lt_add_one' blk_alloc_past blk_alloc_at blk_drew blk_setCell_ne

theorem or_one {r : Int} (h0 : 0 ≤ r) (h1 : r < 4294967296) : ∃ R : Nat, bits .or .u32 r 1 = (R : Int) ∧ R % 2 = 1 ∧ R < 4294967296 := by
  refine ⟨r.toNat ||| 1, ?_, ?_, ?_⟩
  · rw [u32_or _ _ h0 h1 (by omega) (by omega)]
    rfl
  · have h1 : (r.toNat ||| 1).testBit 0 = true := by rw [Nat.testBit_or]; simp
    rw [Nat.testBit_zero] at h1
    exact of_decide_eq_true h1
  · exact Nat.or_lt_two_pow (n := 32) (by omega) (by omega)
theorem bit_test (R i : Nat) : (((R : Int) / 2 ^ i).tmod 2 == 1) = R.testBit i := by
  rw [Nat.testBit_eq_decide_div_mod_eq]
  have : ((R : Int) / 2 ^ i).tmod 2 = ((R / 2 ^ i % 2 : Nat) : Int) := by
    rw [show ((R : Int) / 2 ^ i) = ((R / 2 ^ i : Nat) : Int) by push_cast; rfl, Int.tmod_eq_emod_of_nonneg (Int.natCast_nonneg _)]
    push_cast; rfl
  rw [this]
  have h2 : R / 2 ^ i % 2 < 2 := Nat.mod_lt _ (by omega)
  generalize R / 2 ^ i % 2 = z at *
  rcases (show z = 0 ∨ z = 1 by omega) with rfl | rfl <;> rfl
theorem xor_u8 {y : Int} (h : 0 ≤ y ∧ y ≤ 255) {q : Nat} (hq : q < 8) : bits .xor .u8 y (2 ^ q % 256) = ((y.toNat ^^^ 2 ^ q : Nat) : Int) := by
  have h1 : ((2 : Int) ^ q % 256) = ((2 ^ q : Nat) : Int) := by
    have h : ∀ q : Fin 8, ((2 : Int) ^ (q : Nat) % 256) = ((2 ^ (q : Nat) : Nat) : Int) := by decide
    exact h ⟨q, hq⟩
  have h2 : 2 ^ q < 2 ^ 8 := Nat.pow_lt_pow_right (by omega) hq
  rw [h1]
  generalize 2 ^ q = p at *
  rw [u8_xor _ _ (by omega) (by omega) (by omega) (by omega), Int.toNat_natCast]

theorem parts_one {w : World} {g : Nat} {v : Value} {x : List Int} {t : TypeId} {fr : Nat × Nat} (hb : blk w g = some (.cells #[v] t fr)) (hx : BytesIs w v x) : PartsAre w (some ⟨g, 0, none⟩) [x] := by
  intro i y hy
  match i, hy with
  | 0, hy =>
    simp at hy
    subst hy
    exact ⟨_, v, rfl, by rw [addr_add, cell_of_blk hb]; rfl, hx⟩
  | n + 1, hy => simp at hy
theorem cat_one (x : List Int) : cat [x] = x := by simp [cat]

set_option maxHeartbeats 2000000 in
set_option maxRecDepth 100000 in
theorem bursts_walk {w : World} (hT : TableAt w) {v : Value} {xs : List Int} (hx : BytesIs w v xs) (hsm : xs.length ≤ 140737488355328) (at' : Int) (ha : I64 at') (r : Int) (hr0 : 0 ≤ r) (hr1 : r < 4294967296) :
    Calls Tryd.prog 4 #[v, .int .i64 at', .int .u32 r] w fun e w' => e = .returned (.bool true) ∧ Chg (fun _ => False) w w' := by
  have HK := Lib.hid (known_ok hT)
  have HX := Lib.hid hx
  have HT := Lib.hid hT
  have HSM := Lib.hid hsm
  obtain ⟨oa, c, rfl, hc1, hc2, hc3, _⟩ := hx
  have HC0 := Lib.hid hc3
  unfold maxLen at hc2
  clear hT hc3
  by_cases h0 : xs.length = 0
  · have h0b : ((xs.length : Int) == 0) = true := by simp [h0]
    clear h0 hsm
    go_enter Tryd.func4, Tryd.ntmps4
    go_wp2_with fail
    refine HK.out.mono ?_
    rintro e w1 ⟨rfl, hc⟩
    have HC := Lib.hid hc
    clear hc HK
    go_wp2
    go_ret
    exact ⟨rfl, HC.out⟩
  · have h0b : ((xs.length : Int) == 0) = false := beq_eq_false_iff_ne.2 (by omega)
    have hl1 : 1 ≤ xs.length := by omega
    obtain ⟨R, hR1, hR2, hR3⟩ := or_one hr0 hr1
    have PB := pickI_bd at' (8 * (xs.length : Int)) (by omega)
    have HP := Lib.hid (fun wy => pick_any at' (8 * (xs.length : Int)) ha (by omega) (by omega) wy)
    obtain ⟨f, hf⟩ : ∃ f : Nat, (f : Int) = pickI at' (8 * (xs.length : Int)) := ⟨(pickI at' (8 * (xs.length : Int))).toNat, by omega⟩
    rw [← hf] at PB HP
    have hf2 : f < 8 * xs.length := by omega
    obtain ⟨i0, hi, hz0, hz1, hz2⟩ := info5z
    clear h0 hf PB ha
    have HN := Lib.hid (fun (wy : World) => nil_row wy w.heap.size 5)
    have HR2 := Lib.hid hR2
    clear hR2
    go_enter Tryd.func4, Tryd.ntmps4
    go_wp2_with fail
    refine HK.out.mono ?_
    rintro e w1 ⟨rfl, hc⟩
    have HC := Lib.hid hc
    have HS := Lib.hid ((HX.out.frame hc fun _ _ => id).src)
    have HSZ := Lib.hid hc.size
    clear hc HK
    go_upto_region 6 with (at_builtin; refine wpList_app rfl _ _ 24 rfl w.heap.size 5 i0 (.int .u8 0) 1 1 Tryd.underlying24 hi hz0 hz1 hz2 rfl (by decide) (.slice none 0 0) 0 [] (by rfl) (HN.out _) oa xs.length c _ (by rfl) HS.out HC0.out (by have := HSM.out; unfold maxLen; omega) (by have := HSM.out; omega) HSZ.out ?_; intro v1 w2 hown hgrow hlie; have HO := Lib.hid (show w2.ownsRow w.heap.size 5 1 v1 xs.length (u8s xs) by simpa using hown); have HC2 := Lib.hid (HC.out.trans ((Chg.of_grown hgrow).mono fun _ _ h => by simp [Value.ownBlock] at h) fun _ _ => id); clear hown hgrow hlie)
    obtain ⟨g, cap, cur, rfl, hg1, hg2, hg3, _⟩ := row_at HO.out (by omega)
    unfold maxLen at hg3
    go_wp2_with fail
    refine (HP.out _).mono ?_
    rintro e w3 ⟨rfl, rfl⟩
    go_wp2_with fail
    go_loopw [10] (fun s10 wr => ∃ i : Nat, i ≤ 32 ∧ s10 = .int .i64 i ∧ wr.ownsRow w.heap.size 5 1 (.slice (some ⟨g, 0, none⟩) xs.length cap) xs.length (u8s (flipTo xs f R i)) ∧ Chg (fun _ => False) w wr) (fun i _ => 32 - (intOf i).toNat)
    case atStart => exact ⟨0, by omega, rfl, HO.out, HC2.out⟩
    case round =>
      obtain ⟨i, hi32, rfl, hrow, hch⟩ := hrel
      have HRW := Lib.hid hrow
      have HCH := Lib.hid hch
      by_cases q1 : i < 32 ∧ f + i < 8 * xs.length
      · obtain ⟨q1, q2⟩ := q1
        have q1' : (i : Int) < 32 := by omega
        have q2' : (f : Int) + (i : Int) < 8 * (xs.length : Int) := by omega
        have hbt := bit_test R i
        have HSUC := Lib.hid (show flipTo xs f R (i + 1) = if R.testBit i = true ∧ f + i < 8 * xs.length then turnB (flipTo xs f R i) (f + i) else flipTo xs f R i from rfl)
        have HFB := Lib.hid (flipTo_byte HX.out.byte f R i)
        have hfl := flipTo_len xs f R i
        obtain ⟨L, hL⟩ : ∃ L, L = flipTo xs f R i := ⟨_, rfl⟩
        rw [← hL] at HRW HSUC HFB hfl
        have HL := Lib.hid hL
        have HFL := Lib.hid hfl
        clear hrow hch hL
        cases hb : R.testBit i with
        | true =>
          rw [hb] at hbt HSUC
          have q8 : (f + i) / 8 < L.length := by omega
          obtain ⟨g', cap', cur', hv', _, _, _, hblk, _, hat⟩ := row_at HRW.out (by omega)
          simp only [Value.slice.injEq, Option.some.injEq, Addr.mk.injEq, true_and, and_true] at hv'
          obtain ⟨rfl, rfl⟩ := hv'
          have hy := HFB.out _ (List.getElem_mem q8)
          have hcell := hat ((f + i) / 8) (.int .u8 L[(f + i) / 8]) (by rw [List.getElem?_map, List.getElem?_eq_getElem q8]; rfl)
          have hfz := frozen_of_blk hblk ((f + i) / 8)
          have HXR := Lib.hid (xor_u8 hy (show (f + i) % 8 < 8 by omega))
          have HTN := Lib.hid (show turnB L (f + i) = L.set ((f + i) / 8) (((L[(f + i) / 8]).toNat ^^^ 2 ^ ((f + i) % 8) : Nat) : Int) by unfold turnB; rw [List.getD_eq_getElem?_getD, List.getElem?_eq_getElem q8]; rfl)
          generalize L[(f + i) / 8] = y at *
          have HRX := Lib.hid (row_set (v := (y.toNat ^^^ 2 ^ ((f + i) % 8) : Nat)) HRW.out (show (f + i) / 8 < xs.length by omega))
          clear hat hfl hb hblk
          go_upto_region 12 with (fail)
          obtain ⟨p, hp⟩ : ∃ p, p = f + i := ⟨_, rfl⟩
          rw [← hp] at HXR HTN HRX hcell hfz q8 HSUC
          have HPP := Lib.hid (show p < 8 * xs.length by omega)
          have HGB := Lib.hid (row_block HRW.out (g := g) rfl).1
          have e1 : (f : Int) + (i : Int) = (p : Int) := by omega
          have e2 : IntKind.i64.wrap (p : Int) = (p : Int) := by rw [IntKind.wrap_i64]; omega
          have e3 : (p : Int).tdiv 8 = ((p / 8 : Nat) : Int) := by rw [Int.tdiv_eq_ediv_of_nonneg (by omega)]; omega
          have e4 : (p : Int).tmod 8 = ((p % 8 : Nat) : Int) := by rw [Int.tmod_eq_emod_of_nonneg (by omega)]; omega
          have e5 : IntKind.i64.wrap ((p / 8 : Nat) : Int) = ((p / 8 : Nat) : Int) := by rw [IntKind.wrap_i64]; omega
          have e7 := HXR.out
          have e8 : ((p / 8 : Nat) : Int) < (xs.length : Int) := by omega
          have e9 : ((p % 8 : Nat) : Int) < 64 := by omega
          clear hp q2'
          go_region
          all_goals
            go_wp2
            go_roundw
            case rel => exact ⟨i + 1, by omega, by go_num, by rw [HSUC.out, if_pos ⟨rfl, HPP.out⟩, HTN.out]; exact row_frame HRX.out (Chg.refl (fun _ => False) _).drew fun _ _ => id, (HCH.out.trans (((Chg.refl (fun i => i = g) wr).setCell (p := ⟨g, p / 8, none⟩) (fun _ => rfl) _).drew) fun i hi h => by have := HGB.out; omega)⟩
            case measure => simp [intOf]; omega
        | false =>
          rw [hb] at hbt HSUC
          clear hb
          go_wp2
          go_roundw
          case rel => exact ⟨i + 1, by omega, by go_num, by rw [HSUC.out]; simpa using HRW.out, HCH.out⟩
          case measure => simp [intOf]; omega
      · have hfs := flip_sum HX.out.byte (f := f) (r := R) (i := i) hf2 HR2.out hi32 (by omega)
        have HFB := Lib.hid (flipTo_byte HX.out.byte f R i)
        have hfl := flipTo_len xs f R i
        obtain ⟨L, hL⟩ : ∃ L, L = flipTo xs f R i := ⟨_, rfl⟩
        rw [← hL] at HRW HFB hfs
        have hne : (((sumI xs : Nat) : Int) != ((sumI L : Nat) : Int)) = true := by rw [bne_iff_ne]; intro h; exact hfs (Int.ofNat.inj h)
        have HB1 := Lib.hid (HX.out.frame hch fun _ _ => id)
        have HB2 := Lib.hid (show BytesIs wr (.slice (some ⟨g, 0, none⟩) xs.length cap) L from row_bytes HRW.out HFB.out)
        have c1 : Chg (fun _ => False) wr (wr.alloc (.cells #[.slice oa xs.length c] 24 (0, 0))) := (Chg.refl _ _).alloc _
        have S1 := Lib.hid (sum_ok (cap := 1) ((HT.out.frame hch).frame c1) (parts_one (blk_alloc_at wr (.cells #[.slice oa xs.length c] 24 (0, 0)) wr.heap.size rfl) (HB1.out.frame c1 fun _ _ => id)) (show [xs].length ≤ maxLen from (by decide : 1 ≤ maxLen)))
        have c2 : Chg (fun _ => False) wr ((wr.alloc (.cells #[.slice oa xs.length c] 24 (0, 0))).alloc (.cells #[.slice (some ⟨g, 0, none⟩) xs.length cap] 24 (0, 0))) := c1.alloc _
        have S2 := Lib.hid (sum_ok (cap := 1) ((HT.out.frame hch).frame c2) (parts_one (g := wr.heap.size + 1) (blk_alloc_at _ _ _ (by simp)) (HB2.out.frame c2 fun _ _ => id)) (show [L].length ≤ maxLen from (by decide : 1 ≤ maxLen)))
        rw [cat_one] at S1 S2
        have HC2 := Lib.hid (hch.trans c2 fun _ _ => id)
        have q1' : ¬ ((i : Int) < 32 ∧ (f : Int) + (i : Int) < 8 * (xs.length : Int)) := by omega
        clear hrow hch hL hfl hfs c1 c2 HRW HFB HB1 HB2
        generalize sumI xs = s1 at *
        generalize sumI L = s2 at *
        by_cases q3 : (i : Int) < 32
        · have q4 : ¬ (f : Int) + (i : Int) < 8 * (xs.length : Int) := fun h => q1' ⟨q3, h⟩
          clear q1' q1
          go_wp2_with fail
          refine S1.out.mono ?_
          rintro e wa ⟨rfl, rfl⟩
          go_wp2_with fail
          refine S2.out.mono ?_
          rintro e wb ⟨rfl, rfl⟩
          go_wp2
          go_ret
          exact ⟨rfl, HC2.out⟩
        · clear q1' q1
          go_wp2_with fail
          refine S1.out.mono ?_
          rintro e wa ⟨rfl, rfl⟩
          go_wp2_with fail
          refine S2.out.mono ?_
          rintro e wb ⟨rfl, rfl⟩
          go_wp2
          go_ret
          exact ⟨rfl, HC2.out⟩

theorem bursts_row (w : World) (hT : TableAt w) {v : Value} (h : ∃ us, BytesIs w v us ∧ us.length ≤ 140737488355328) (a : Int) (wa : (Lit.int .i64 a).wf = true) (r : Int) (wr : (Lit.int .u32 r).wf = true) :
    Calls Tryd.prog 4 #[v, .int .i64 a, .int .u32 r] w fun e w' => e = .returned (.bool true) ∧ Chg (fun _ => False) w w' := by
  obtain ⟨us, hb, hl⟩ := h
  exact bursts_walk hT hb hl a (i64_of wa) r (u32_of wr).1 (u32_of wr).2
end Go.Proofs.YtfihpiommicdbaaDoor
