/- Sums: the contract of wire's Sum and of the reference's; 'same', 'pick'. -/
import Derived.Test.YtfihpiommicdbaaDoorProg
import Derived.Test.YtfihpiommicdbaaDoorLibParts
import Derived.Test.YtfihpiommicdbaaDoorLibCrc
import Derived.Test.YtfihpiommicdbaaDoorLibRows
import Derived.Deep.RegionHeld3
import Derived.Deep.DrawnRows
import Derived.Deep.QuietTactic
import Derived.BigQuiet
import Derived.Deep.CutRange
import Derived.Deep.CutBlock
import Derived.Deep.LoopGhost
import Derived.WalkSpells
import Derived.Lib.Hide
import Derived.Laws.EntriesVeiled
namespace Go.Proofs.YtfihpiommicdbaaDoor
open Go.RowKit Go.Cl
set_option linter.unusedVariables false
set_option linter.unusedSimpArgs false
attribute [local go_sem] lt_add_one' blk_alloc_past blk_alloc_at blk_drew blk_setCell_ne

/-- The table lies where the program's text lays it. -/
def TableAt (w : World) : Prop := ∀ k, k < 16 → w.cell? ⟨0, k, none⟩ = some (.int .u32 (tabL.getD k 0 : Nat))
theorem TableAt.frame {w w' : World} (h : TableAt w) (hc : Chg (fun _ => False) w w') : TableAt w' := fun k hk => cell_frame hc (fun _ _ => id) (h k hk)
def stI (xs : List Int) : Nat := (xs.map Int.toNat).foldl byteN 4294967295
def sumI (xs : List Int) : Nat := sumN (xs.map Int.toNat)

theorem stI_lt {xs : List Int} (h : ∀ b ∈ xs, 0 ≤ b ∧ b ≤ 255) : stI xs < 4294967296 := (foldN (xs.map Int.toNat) (fun b hb => by obtain ⟨x, hx, rfl⟩ := List.mem_map.1 hb; have := h x hx; omega) 4294967295 (by omega)).1
theorem bits_and15 (s : Nat) (hs : s < 4294967296) : bits .and .u32 (s : Int) 15 = ((s % 16 : Nat) : Int) := by
  rw [u32_and _ _ (by omega) (by omega) (by omega) (by omega)]
  congr 1
  exact Nat.and_two_pow_sub_one_eq_mod s 4
theorem bits_nib (s : Nat) (hs : s < 4294967296) : bits .xor .u32 ((s : Int) / 16) ((tabL.getD (s % 16) 0 : Nat) : Int) = ((nib s : Nat) : Int) := by
  have := tab_lt (s % 16) (by omega)
  rw [u32_xor _ _ (by omega) (by omega) (by omega) (by omega)]
  unfold nib
  congr 2
theorem bits_in (s : Nat) (b : Int) (hs : s < 4294967296) (h0 : 0 ≤ b) (h1 : b ≤ 255) : bits .xor .u32 (s : Int) b = ((s ^^^ b.toNat : Nat) : Int) := by
  rw [u32_xor _ _ (by omega) (by omega) (by omega) (by omega)]
  rfl
theorem bits_not (s : Nat) (hs : s < 4294967296) : bits .xor .u32 4294967295 (s : Int) = ((s ^^^ 4294967295 : Nat) : Int) := by
  rw [u32_xor _ _ (by omega) (by omega) (by omega) (by omega), Nat.xor_comm]
  rfl
theorem stI_snoc (xs : List Int) (b : Int) : stI (xs ++ [b]) = byteN (stI xs) b.toNat := by
  unfold stI; simp

set_option maxHeartbeats 1000000 in
theorem sum_ok {w : World} (hT : TableAt w) {oa : Option Addr} {ps : List (List Int)} {cap : Nat} (h : PartsAre w oa ps) (hn : ps.length ≤ maxLen) :
    Calls Tryd.prog 12 #[.slice oa ps.length cap] w fun e w' => e = .returned (.int .u32 (sumI (cat ps))) ∧ w = w' := by
  have HT := Lib.hid hT
  have HP := Lib.hid h
  unfold maxLen at hn
  clear hT h
  go_enter Tryd.func12, Tryd.ntmps12
  go_wp2
  go_loop [3, 10] (fun s3 s10 => ∃ k : Nat, k ≤ ps.length ∧ s10 = .int .i64 k ∧ s3 = .int .u32 (stI (catTo ps k))) (fun _ i => ps.length - (intOf i).toNat)
  case atStart => exact ⟨0, Nat.zero_le _, rfl, by rw [catTo_zero]; rfl⟩
  case round =>
    obtain ⟨k, hk, rfl, rfl⟩ := hrel
    by_cases hlt : k < ps.length
    · obtain ⟨g, o, rfl, hat⟩ := HP.out.at (by omega)
      obtain ⟨v, hv, hb⟩ := hat k _ (List.getElem?_eq_getElem hlt)
      have HN := Lib.hid (catTo_next (List.getElem?_eq_getElem hlt))
      have hbc := (show ∀ b ∈ catTo ps k, 0 ≤ b ∧ b ≤ 255 from fun b hb => HP.out.byte b (by obtain ⟨x, hx, hbx⟩ := List.mem_flatten.1 hb; exact List.mem_flatten.2 ⟨x, List.mem_of_mem_take hx, hbx⟩))
      generalize ps[k] = x at *
      have HBC := Lib.hid hbc
      have HB := Lib.hid hb
      have hxl := hb.len
      obtain ⟨ob, c, rfl, hc1, hc2, _⟩ := hb
      unfold maxLen at hxl hc2
      have hlt' : (k : Int) < (ps.length : Int) := by omega
      clear hat hbc
      go_wp2
      go_loop [3, 16] (fun s3 s16 => ∃ j : Nat, j ≤ x.length ∧ s16 = .int .i64 j ∧ s3 = .int .u32 (stI (catTo ps k ++ x.take j))) (fun _ i => x.length - (intOf i).toNat)
      case atStart => exact ⟨0, Nat.zero_le _, rfl, by simp⟩
      case round =>
        obtain ⟨j, hj, rfl, rfl⟩ := hrel
        by_cases hjt : j < x.length
        · obtain ⟨g2, o2, c2, hv2, _, _, hat2⟩ := HB.out.at (by omega)
          simp only [Value.slice.injEq] at hv2
          obtain ⟨rfl, _, rfl⟩ := hv2
          obtain ⟨hcell, hb0, hb1⟩ := hat2 j _ (List.getElem?_eq_getElem hjt)
          have hjt' : (j : Int) < (x.length : Int) := by omega
          clear hat2
          go_upto_region 9 with (fail)
          have HS := Lib.hid (stI_snoc (catTo ps k ++ x.take j) x[j])
          have hst : stI (catTo ps k ++ x.take j) < 4294967296 := stI_lt fun b hb => by
            rcases List.mem_append.1 hb with hb | hb
            · exact HBC.out b hb
            · exact HB.out.byte b (List.mem_of_mem_take hb)
          generalize stI (catTo ps k ++ x.take j) = st at *
          rw [bits_in st _ hst hb0 hb1]
          have hs1 : st ^^^ (x[j]).toNat < 4294967296 := Nat.xor_lt_two_pow (n := 32) (by omega) (by omega)
          obtain ⟨s1, e1⟩ : ∃ s1, s1 = st ^^^ (x[j]).toNat := ⟨_, rfl⟩
          rw [← e1] at hs1 ⊢
          have E1 := Lib.hid e1
          clear e1
          obtain ⟨tv, htv⟩ : ∃ tv, tv = tabL.getD (s1 % 16) 0 := ⟨_, rfl⟩
          have t1 := HT.out (s1 % 16) (by omega)
          have n1 := bits_nib s1 hs1
          have l1 := tab_lt (s1 % 16) (by omega)
          rw [← htv] at t1 n1 l1
          have hs2 := nib_lt s1 hs1
          obtain ⟨s2, e2⟩ : ∃ s2, s2 = nib s1 := ⟨_, rfl⟩
          rw [← e2] at n1 hs2
          obtain ⟨uv, huv⟩ : ∃ uv, uv = tabL.getD (s2 % 16) 0 := ⟨_, rfl⟩
          have t2 := HT.out (s2 % 16) (by omega)
          have n2 := bits_nib s2 hs2
          have l2 := tab_lt (s2 % 16) (by omega)
          rw [← huv] at t2 n2 l2
          have hs3 := nib_lt s2 hs2
          obtain ⟨s3, e3⟩ : ∃ s3, s3 = nib s2 := ⟨_, rfl⟩
          rw [← e3] at n2 hs3
          have E2 := Lib.hid e2
          have E3 := Lib.hid e3
          have b1 := bits_and15 s1 hs1
          have m1 : ((s1 % 16 : Nat) : Int) < 16 := by omega
          have b2 := bits_and15 s2 hs2
          have m2 : ((s2 % 16 : Nat) : Int) < 16 := by omega
          clear e2 e3 htv huv
          go_wp2
          go_round
          case rel => exact ⟨j + 1, by omega, by go_num, by rw [List.take_succ_eq_append_getElem hjt, ← List.append_assoc, HS.out]; unfold byteN; rw [← E1.out, ← E2.out, ← E3.out]⟩
          case measure => simp [intOf]; omega
        · have hje : j = x.length := by omega
          subst hje
          go_wp2
          go_round
          case rel => exact ⟨k + 1, by omega, by go_num, by rw [List.take_length, HN.out]⟩
          case measure => simp [intOf]; omega
    · have hke : k = ps.length := by omega
      subst hke
      have hst := stI_lt HP.out.byte
      have hcs : ((stI ps.flatten ^^^ 4294967295 : Nat) : Int) = sumI (cat ps) := rfl
      rw [catTo_all]
      unfold cat at hcs ⊢
      generalize stI ps.flatten = st at *
      have c1 : bits .xor .u32 IntKind.u32.max (st : Int) = ((st ^^^ 4294967295 : Nat) : Int) := bits_not st hst
      rw [hcs] at c1
      clear hcs
      go_wp2
      go_ret
      exact ⟨rfl, rfl⟩

/-! ### the reference's -/
theorem bitOf_at {x : List Int} (hb : ∀ b ∈ x, 0 ≤ b ∧ b ≤ 255) {k : Nat} (hk : k / 8 < x.length) : x[k / 8] / 2 ^ (k % 8) % 2 = ((bitOf (x.map Int.toNat) k).toNat : Int) := by
  unfold bitOf
  rw [List.getD_eq_getElem?_getD, List.getElem?_map, List.getElem?_eq_getElem hk]
  simp only [Option.map_some, Option.getD_some]
  have h0 := (hb _ (List.getElem_mem hk)).1
  obtain ⟨n, hn⟩ := Int.eq_ofNat_of_zero_le h0
  rw [hn, Int.toNat_natCast, Nat.testBit_eq_decide_div_mod_eq]
  have : ((n : Int) / 2 ^ (k % 8) % 2) = ((n / 2 ^ (k % 8) % 2 : Nat) : Int) := by push_cast; rfl
  rw [this]
  have h2 : n / 2 ^ (k % 8) % 2 < 2 := Nat.mod_lt _ (by omega)
  by_cases h : n / 2 ^ (k % 8) % 2 = 1
  · simp [h]
  · simp [h]; omega
theorem stepL_top {r fv : Nat} (hr : r < 4294967296) (hf : fv < 2) (h : r / 2147483648 = 1) : bits .xor .u32 ((r : Int) * 2 % 4294967296 + (fv : Int)) 79764919 = ((stepL r fv : Nat) : Int) := by
  rw [u32_xor _ _ (by omega) (by omega) (by omega) (by omega)]
  unfold stepL
  rw [if_pos h]
  have : ((r : Int) * 2 % 4294967296 + (fv : Int)).toNat = (r * 2 + fv) % 4294967296 := by omega
  rw [this]
  rfl
theorem stepL_low {r fv : Nat} (hr : r < 4294967296) (hf : fv < 2) (h : ¬ r / 2147483648 = 1) : ((r : Int) * 2 + (fv : Int)) = ((stepL r fv : Nat) : Int) := by
  unfold stepL
  rw [if_neg h]
  simp
  omega
theorem rev_lt (r : Nat) : ∀ i, revN r i < 2 ^ i := by
  intro i
  induction i with
  | zero => simp [revN]
  | succ i ih =>
    rw [revN, Nat.pow_succ]
    have : r / 2 ^ i % 2 < 2 := Nat.mod_lt _ (by omega)
    omega
theorem rev_step {r i : Nat} (hi : i < 32) : ((((revN r i : Nat) : Int) * 2 % 4294967296 + ((r : Int) / 2 ^ i).tmod 2) % 4294967296) = ((revN r (i + 1) : Nat) : Int) := by
  have h1 := rev_lt r i
  have h2 : 2 ^ i ≤ 2 ^ 31 := Nat.pow_le_pow_right (by omega) (by omega)
  have h3 : ((r : Int) / 2 ^ i).tmod 2 = ((r / 2 ^ i % 2 : Nat) : Int) := by
    rw [show ((r : Int) / 2 ^ i) = ((r / 2 ^ i : Nat) : Int) by push_cast; rfl]
    rw [Int.tmod_eq_emod_of_nonneg (Int.natCast_nonneg _)]
    push_cast; rfl
  rw [h3, revN]
  have h4 : r / 2 ^ i % 2 < 2 := Nat.mod_lt _ (by omega)
  generalize r / 2 ^ i % 2 = z at *
  omega
theorem mod_mod2 (a : Int) : a % 4294967296 % 2 = a % 2 := Int.emod_emod_of_dvd a (by decide)
theorem flip_lt {xs : List Nat} {k : Nat} (h : k < 32) : flipN xs k = 1 - (bitOf xs k).toNat := by unfold flipN; simp [h]; cases bitOf xs k <;> rfl
theorem flip_ge {xs : List Nat} {k : Nat} (h : ¬ k < 32) : flipN xs k = (bitOf xs k).toNat := by unfold flipN; simp [h]
set_option maxRecDepth 100000 in
set_option maxHeartbeats 1000000 in
theorem rsum_ok {w : World} {v : Value} {x : List Int} (h : BytesIs w v x) (hsm : x.length ≤ 562949953421312) :
    Calls Tryd.prog 14 #[v] w fun e w' => e = .returned (.int .u32 (sumI x)) ∧ w = w' := by
  have hby := h.byte
  have HBY := Lib.hid hby
  have HB := Lib.hid h
  have hxl := h.len
  obtain ⟨ob, c, rfl, hc1, hc2, _⟩ := h
  unfold maxLen at hxl hc2
  clear hby
  go_enter Tryd.func14, Tryd.ntmps14
  go_wp2
  go_loop [3, 5] (fun s3 s5 => ∃ k : Nat, k ≤ 8 * x.length + 32 ∧ s5 = .int .i64 k ∧ s3 = .int .u32 (refN (x.map Int.toNat) k)) (fun _ i => 8 * x.length + 32 - (intOf i).toNat)
  case atStart => exact ⟨0, Nat.zero_le _, rfl, rfl⟩
  case round =>
    obtain ⟨k, hk, rfl, rfl⟩ := hrel
    by_cases hlt : k < 8 * x.length + 32
    · have hrl := refN_lt (x.map Int.toNat) k
      have HR := Lib.hid (show refN (x.map Int.toNat) (k + 1) = stepL (refN (x.map Int.toNat) k) (flipN (x.map Int.toNat) k) from rfl)
      generalize refN (x.map Int.toNat) k = r at *
      have hlt' : (k : Int) < 8 * (x.length : Int) + 32 := by omega
      go_upto_if 23 with (fail)
      go_cut [6] from 23 to 33 (fun s6 wq => s6 = .int .u32 ((bitOf (x.map Int.toNat) k).toNat : Nat) ∧ w = wq)
      case first =>
        by_cases q1 : k < 8 * x.length
        · obtain ⟨g2, o2, c2, hv2, _, _, hat2⟩ := HB.out.at (by omega)
          simp only [Value.slice.injEq] at hv2
          obtain ⟨rfl, _, rfl⟩ := hv2
          have q8 : k / 8 < x.length := by omega
          obtain ⟨hcell, hb0, hb1⟩ := hat2 (k / 8) _ (List.getElem?_eq_getElem q8)
          have hbit := bitOf_at HBY.out q8
          have q1' : (k : Int) < 8 * (x.length : Int) := by omega
          have q9 : (k : Int) / 8 < (x.length : Int) := by omega
          have HBIT := Lib.hid hbit
          clear hat2 hbit
          go_wp2
          go_meet
          case rel => exact ⟨by rw [HBIT.out], rfl⟩
        · have q1' : ¬ (k : Int) < 8 * (x.length : Int) := by omega
          have HBIT := Lib.hid (bitOf_past (x.map Int.toNat) k (by rw [List.length_map]; omega))
          go_wp2
          go_meet
          case rel => exact ⟨by rw [HBIT.out]; rfl, rfl⟩
      case rest =>
        obtain ⟨rfl, rfl⟩ := hcut
        have HFA := Lib.hid (@flip_lt (x.map Int.toNat) k)
        have HFB := Lib.hid (@flip_ge (x.map Int.toNat) k)
        have hb2 : (bitOf (x.map Int.toNat) k).toNat < 2 := Bool.toNat_lt _
        generalize (bitOf (x.map Int.toNat) k).toNat = bv at *
        go_upto_if 35 with (fail)
        go_cut [6] from 35 to 37 (fun s6 wq => s6 = .int .u32 (flipN (x.map Int.toNat) k : Nat) ∧ w = wq)
        case first =>
          by_cases q2 : k < 32
          · have q2' : (k : Int) < 32 := by omega
            have HF := Lib.hid (show (1 - (bv : Int)) = ((flipN (x.map Int.toNat) k : Nat) : Int) by rw [HFA.out q2]; omega)
            go_wp2
            go_meet
            case rel => exact ⟨by rw [HF.out], rfl⟩
          · have q2' : ¬ (k : Int) < 32 := by omega
            have HF := Lib.hid (HFB.out q2)
            go_wp2
            go_meet
            case rel => exact ⟨by rw [HF.out], rfl⟩
        case rest =>
          obtain ⟨rfl, rfl⟩ := hcut
          have hf2 : flipN (x.map Int.toNat) k < 2 := Bool.toNat_lt _
          generalize flipN (x.map Int.toNat) k = fv at *
          clear HFA HFB hb2
          by_cases q3 : r / 2147483648 = 1
          · have q3' : (r : Int) / 2147483648 = 1 := by omega
            have hx := u32_xor ((((r * 2 + fv) % 4294967296 : Nat)) : Int) 79764919 (by omega) (by omega) (by omega) (by omega)
            have HS := Lib.hid (stepL_top hrl hf2 q3)
            go_wp2
            go_round
            case rel => exact ⟨k + 1, by omega, by go_num, by rw [HR.out, HS.out]⟩
            case measure => simp [intOf]; omega
          · have q3' : ¬ (r : Int) / 2147483648 = 1 := by omega
            have HS := Lib.hid (stepL_low hrl hf2 q3)
            go_wp2
            go_round
            case rel => exact ⟨k + 1, by omega, by go_num, by rw [HR.out, HS.out]⟩
            case measure => simp [intOf]; omega
    · have hke : k = 8 * x.length + 32 := by omega
      subst hke
      have HE := Lib.hid (show refSumN (x.map Int.toNat) = revN (refN (x.map Int.toNat) (8 * x.length + 32)) 32 ^^^ 4294967295 by unfold refSumN; rw [List.length_map])
      have HE2 := Lib.hid (refSumN_eq (x.map Int.toNat) (fun b hb => by obtain ⟨y, hy, rfl⟩ := List.mem_map.1 hb; have := HBY.out y hy; omega))
      have hrl := refN_lt (x.map Int.toNat) (8 * x.length + 32)
      generalize refN (x.map Int.toNat) (8 * x.length + 32) = r at *
      go_wp2
      go_loop [8, 9] (fun s8 s9 => ∃ i : Nat, i ≤ 32 ∧ s9 = .int .i64 i ∧ s8 = .int .u32 (revN r i)) (fun _ i => 32 - (intOf i).toNat)
      case atStart => exact ⟨0, Nat.zero_le _, rfl, rfl⟩
      case round =>
        obtain ⟨i, hi, rfl, rfl⟩ := hrel
        have hrv := rev_lt r i
        by_cases q : i < 32
        · have q' : (i : Int) < 32 := by omega
          have HS := Lib.hid (rev_step (r := r) q)
          go_wp2
          go_round
          case rel => exact ⟨i + 1, by omega, by go_num, by rw [HS.out]⟩
          case measure => simp [intOf]; omega
        · have hie : i = 32 := by omega
          subst hie
          have hr32 : revN r 32 < 4294967296 := hrv
          have c1 : bits .xor .u32 IntKind.u32.max ((revN r 32 : Nat) : Int) = ((sumI x : Nat) : Int) := by rw [show sumI x = sumN (x.map Int.toNat) from rfl, ← HE2.out, HE.out]; exact bits_not _ hr32
          generalize revN r 32 = rv at *
          go_wp2
          go_ret
          exact ⟨rfl, rfl⟩
end Go.Proofs.YtfihpiommicdbaaDoor
