/- Readers: contracts of get, Byte, Half, Word, Long. No condition. (Printed by genG.py.) -/
import Derived.Test.YtfihpiommicdbaaDoorWirF
import Derived.Test.YtfihpiommicdbaaDoorWirD
namespace Go.Proofs.YtfihpiommicdbaaDoor
open Go.RowKit Go.Cl
set_option linter.unusedVariables false
set_option linter.unusedSimpArgs false
attribute [local go_sem] lt_add_one' blk_alloc_past blk_alloc_at blk_drew blk_setCell_ne

/-- Bytes as a number, the lowest first. -/
def leV : List Int → Int
  | [] => 0
  | b :: l => b + 256 * leV l
theorem leV_snoc (l : List Int) (b : Int) : leV (l ++ [b]) = leV l + b * 256 ^ l.length := by
  induction l with
  | nil => simp [leV]
  | cons x l ih =>
    simp only [List.cons_append, leV, ih, List.length_cons, Int.pow_succ, Int.mul_add]
    rw [show 256 * (b * 256 ^ l.length) = b * (256 ^ l.length * 256) by rw [Int.mul_comm 256, Int.mul_assoc]]
    omega
theorem leV_bd (l : List Int) (h : Bytes l) : 0 ≤ leV l ∧ leV l < 256 ^ l.length := by
  induction l with
  | nil => simp [leV]
  | cons x l ih =>
    have h1 := h x (by simp)
    have h2 := ih fun b hb => h b (by simp [hb])
    simp only [leV, List.length_cons, Int.pow_succ]
    omega
theorem leV_leB (x : Int) (n : Nat) : leV (leB x n) = x % 256 ^ n := by
  induction n with
  | zero => simp [leB, leV, Int.emod_one]
  | succ n ih =>
    rw [leB_succ, leV_snoc, ih, leB_len, Int.pow_succ]
    have hp : (0 : Int) < 256 ^ n := Int.pow_pos (by omega)
    have h1 := Int.emod_add_mul_ediv x (256 ^ n)
    have h2 := Int.emod_add_mul_ediv (x / 256 ^ n) 256
    have h3 : x = x % 256 ^ n + x / 256 ^ n % 256 * 256 ^ n + 256 ^ n * 256 * (x / 256 ^ n / 256) := by
      conv => lhs; rw [← h1, ← h2]
      rw [Int.mul_add, Int.mul_comm (256 ^ n) (x / 256 ^ n % 256), ← Int.mul_assoc, Int.add_assoc]
    have b1 := Int.emod_nonneg x (show (256 : Int) ^ n ≠ 0 by omega)
    have b2 := Int.emod_lt_of_pos x hp
    have b3 := Int.emod_nonneg (x / 256 ^ n) (show (256 : Int) ≠ 0 by omega)
    have b4 := Int.emod_lt_of_pos (x / 256 ^ n) (show (0 : Int) < 256 by omega)
    have b5 : x / 256 ^ n % 256 * 256 ^ n ≤ 255 * 256 ^ n := Int.mul_le_mul_of_nonneg_right (by omega) (by omega)
    have b6 : 0 ≤ x / 256 ^ n % 256 * 256 ^ n := Int.mul_nonneg b3 (by omega)
    conv => rhs; rw [h3]
    rw [Int.add_mul_emod_self_left]
    exact (Int.emod_eq_of_lt (by omega) (by omega)).symm
theorem bits_or64 {v b : Int} {k : Nat} (hk : k < 8) (h0 : 0 ≤ v) (h1 : v < 256 ^ k) (h2 : 0 ≤ b) (h3 : b ≤ 255) : bits .or .u64 v (IntKind.u64.wrap (b * 2 ^ (8 * k))) = v + b * 256 ^ k := by
  have hp : (256 : Int) ^ k ≤ 256 ^ 7 := by
    have h : ∀ k : Fin 8, (256 : Int) ^ (k : Nat) ≤ 256 ^ 7 := by decide
    exact h ⟨k, hk⟩
  have hp0 : (0 : Int) < 256 ^ k := Int.pow_pos (by omega)
  have hb : b * 256 ^ k ≤ 255 * 256 ^ 7 := Int.le_trans (Int.mul_le_mul_of_nonneg_right h3 (by omega)) (by omega)
  have hb0 : 0 ≤ b * 256 ^ k := Int.mul_nonneg h2 (by omega)
  rw [IntKind.wrap_u64, pow8, Int.emod_eq_of_lt hb0 (by omega), u64_or _ _ h0 (by omega) hb0 (by omega)]
  obtain ⟨vn, rfl⟩ := Int.eq_ofNat_of_zero_le h0
  obtain ⟨bn, rfl⟩ := Int.eq_ofNat_of_zero_le h2
  have e0 : ((2 ^ (8 * k) : Nat) : Int) = 256 ^ k := by rw [Nat.pow_mul, Int.natCast_pow]; rfl
  have e1 : ((bn : Int) * 256 ^ k) = ((2 ^ (8 * k) * bn : Nat) : Int) := by rw [Int.natCast_mul, e0, Int.mul_comm]
  have h1' : vn < 2 ^ (8 * k) := by omega
  rw [e1, Int.toNat_natCast, Int.toNat_natCast, Nat.or_comm, ← Nat.two_pow_add_eq_or_of_lt h1', Int.natCast_add, Int.add_comm]
theorem take_snocI (l : List Int) (k : Nat) (h : k < l.length) : l.take (k + 1) = l.take k ++ [l[k]] := List.take_succ_eq_append_getElem h
theorem took_len (s : RS) (n : Nat) : (s.took n).length ≤ n := by
  unfold RS.took
  split
  · exact List.length_take_le _ _
  · simp
theorem took_byte {s : RS} (h : ∀ x ∈ s.xs, 0 ≤ x ∧ x ≤ 255) (n : Nat) : Bytes (s.took n) := fun b hb => by
  unfold RS.took at hb
  split at hb
  · exact h b (List.mem_of_mem_drop (List.mem_of_mem_take hb))
  · simp at hb
/-- The number that is read. -/
def RS.num (s : RS) (n : Nat) : Int := leV (s.took n)
theorem num_bd {s : RS} (h : ∀ x ∈ s.xs, 0 ≤ x ∧ x ≤ 255) (n : Nat) : 0 ≤ s.num n ∧ s.num n < 256 ^ n := by
  have h1 := leV_bd _ (took_byte h n)
  have h2 := took_len s n
  have h3 : ∀ d e : Nat, (256 : Int) ^ d ≤ 256 ^ (d + e) := fun d e => by
    induction e with
    | zero => exact Int.le_refl _
    | succ e ih =>
      rw [← Nat.add_assoc, Int.pow_succ]
      have : (0 : Int) < 256 ^ (d + e) := Int.pow_pos (by omega)
      omega
  have h4 := h3 (s.took n).length (n - (s.took n).length)
  rw [Nat.add_sub_cancel' h2] at h4
  unfold RS.num
  omega

set_option maxHeartbeats 1000000 in
set_option maxRecDepth 100000 in
theorem get8_ok {w : World} {base b : Nat} {v : Value} {s : RS} (h : RdIs w base b v s) :
    Calls Tryd.prog 77 #[.pointer (some ⟨b, 0, none⟩)] w fun r w' => r = .returned (.int .u8 (s.num 1)) ∧ RGoes w w' base b v (s.next 1) := by
  have HS := Lib.hid (size8_ok w)
  have HN := Lib.hid (rnext_ok h 1 (by omega))
  have HTL := Lib.hid (took_len s 1)
  have HNB := Lib.hid (num_bd h.byte 1)
  have HNE := Lib.hid (show s.num 1 = leV (s.took 1) from rfl)
  have HTB := Lib.hid (took_byte h.byte 1)
  clear h
  go_enter Tryd.func77, Tryd.ntmps77
  go_wp2_with fail
  refine HS.out.mono ?_
  rintro e w1 ⟨rfl, rfl⟩
  go_wp2_with fail
  refine HN.out.mono ?_
  rintro e w1 ⟨v', rfl, hb, hg⟩
  generalize s.took 1 = x at *
  have HB := Lib.hid hb
  have HG := Lib.hid hg
  have hxl := hb.len
  obtain ⟨ob, c, rfl, hc1, hc2, _⟩ := hb
  unfold maxLen at hxl hc2
  clear hg HS HN
  go_wp2_with fail
  go_loop [3, 10] (fun s3 s10 => ∃ k : Nat, k ≤ x.length ∧ s10 = .int .i64 k ∧ s3 = .int .u64 (leV (x.take k))) (fun _ i => x.length - (intOf i).toNat)
  case atStart => exact ⟨0, Nat.zero_le _, rfl, rfl⟩
  case round =>
    obtain ⟨k, hk, rfl, rfl⟩ := hrel
    by_cases hlt : k < x.length
    · obtain ⟨g2, o2, c2, hv2, _, _, hat2⟩ := HB.out.at (by omega)
      simp only [Value.slice.injEq] at hv2
      obtain ⟨rfl, _, rfl⟩ := hv2
      obtain ⟨hcell, hb0, hb1⟩ := hat2 k _ (List.getElem?_eq_getElem hlt)
      have HSN := Lib.hid (take_snocI x k hlt)
      have k8 : k < 8 := by have := HTL.out; omega
      have hlk : (x.take k).length = k := by rw [List.length_take]; omega
      have hvb := leV_bd (x.take k) fun b hb => HTB.out b (List.mem_of_mem_take hb)
      rw [hlk] at hvb
      have HSNV := Lib.hid (leV_snoc (x.take k) x[k])
      rw [hlk] at HSNV
      generalize hv1 : leV (x.take k) = vv at *
      generalize x[k] = y at *
      have HOR := Lib.hid (bits_or64 k8 hvb.1 hvb.2 hb0 hb1)
      have HV1 := Lib.hid hv1
      have kb : 8 * (k : Int) < 64 := by omega
      have ke : (8 * (k : Int)).toNat = 8 * k := by omega
      have hlt' : (k : Int) < (x.length : Int) := by omega
      clear hat2 hlk hvb hv1
      go_wp2
      go_round
      case rel => exact ⟨k + 1, by omega, by go_num, by rw [HSN.out, HSNV.out, HOR.out]⟩
      case measure => simp [intOf]; omega
    · have hke : k = x.length := by omega
      subst hke
      rw [List.take_length, ← HNE.out]
      have hb := HNB.out
      obtain ⟨nv, hnv⟩ : ∃ nv, nv = s.num 1 := ⟨_, rfl⟩
      rw [← hnv] at hb ⊢
      have HNV := Lib.hid hnv
      clear hnv
      obtain ⟨hb0, hb1⟩ := hb
      have hb2 : nv ≤ 255 := by
        have : (256 : Int) ^ 1 = 255 + 1 := by decide
        omega
      clear hb1
      go_wp2
      go_ret
      exact ⟨by rw [← HNV.out]; rfl, HG.out⟩

set_option maxHeartbeats 1000000 in
set_option maxRecDepth 100000 in
theorem get16_ok {w : World} {base b : Nat} {v : Value} {s : RS} (h : RdIs w base b v s) :
    Calls Tryd.prog 89 #[.pointer (some ⟨b, 0, none⟩)] w fun r w' => r = .returned (.int .u16 (s.num 2)) ∧ RGoes w w' base b v (s.next 2) := by
  have HS := Lib.hid (size16_ok w)
  have HN := Lib.hid (rnext_ok h 2 (by omega))
  have HTL := Lib.hid (took_len s 2)
  have HNB := Lib.hid (num_bd h.byte 2)
  have HNE := Lib.hid (show s.num 2 = leV (s.took 2) from rfl)
  have HTB := Lib.hid (took_byte h.byte 2)
  clear h
  go_enter Tryd.func89, Tryd.ntmps89
  go_wp2_with fail
  refine HS.out.mono ?_
  rintro e w1 ⟨rfl, rfl⟩
  go_wp2_with fail
  refine HN.out.mono ?_
  rintro e w1 ⟨v', rfl, hb, hg⟩
  generalize s.took 2 = x at *
  have HB := Lib.hid hb
  have HG := Lib.hid hg
  have hxl := hb.len
  obtain ⟨ob, c, rfl, hc1, hc2, _⟩ := hb
  unfold maxLen at hxl hc2
  clear hg HS HN
  go_wp2_with fail
  go_loop [3, 10] (fun s3 s10 => ∃ k : Nat, k ≤ x.length ∧ s10 = .int .i64 k ∧ s3 = .int .u64 (leV (x.take k))) (fun _ i => x.length - (intOf i).toNat)
  case atStart => exact ⟨0, Nat.zero_le _, rfl, rfl⟩
  case round =>
    obtain ⟨k, hk, rfl, rfl⟩ := hrel
    by_cases hlt : k < x.length
    · obtain ⟨g2, o2, c2, hv2, _, _, hat2⟩ := HB.out.at (by omega)
      simp only [Value.slice.injEq] at hv2
      obtain ⟨rfl, _, rfl⟩ := hv2
      obtain ⟨hcell, hb0, hb1⟩ := hat2 k _ (List.getElem?_eq_getElem hlt)
      have HSN := Lib.hid (take_snocI x k hlt)
      have k8 : k < 8 := by have := HTL.out; omega
      have hlk : (x.take k).length = k := by rw [List.length_take]; omega
      have hvb := leV_bd (x.take k) fun b hb => HTB.out b (List.mem_of_mem_take hb)
      rw [hlk] at hvb
      have HSNV := Lib.hid (leV_snoc (x.take k) x[k])
      rw [hlk] at HSNV
      generalize hv1 : leV (x.take k) = vv at *
      generalize x[k] = y at *
      have HOR := Lib.hid (bits_or64 k8 hvb.1 hvb.2 hb0 hb1)
      have HV1 := Lib.hid hv1
      have kb : 8 * (k : Int) < 64 := by omega
      have ke : (8 * (k : Int)).toNat = 8 * k := by omega
      have hlt' : (k : Int) < (x.length : Int) := by omega
      clear hat2 hlk hvb hv1
      go_wp2
      go_round
      case rel => exact ⟨k + 1, by omega, by go_num, by rw [HSN.out, HSNV.out, HOR.out]⟩
      case measure => simp [intOf]; omega
    · have hke : k = x.length := by omega
      subst hke
      rw [List.take_length, ← HNE.out]
      have hb := HNB.out
      obtain ⟨nv, hnv⟩ : ∃ nv, nv = s.num 2 := ⟨_, rfl⟩
      rw [← hnv] at hb ⊢
      have HNV := Lib.hid hnv
      clear hnv
      obtain ⟨hb0, hb1⟩ := hb
      have hb2 : nv ≤ 65535 := by
        have : (256 : Int) ^ 2 = 65535 + 1 := by decide
        omega
      clear hb1
      go_wp2
      go_ret
      exact ⟨by rw [← HNV.out]; rfl, HG.out⟩

set_option maxHeartbeats 1000000 in
set_option maxRecDepth 100000 in
theorem get32_ok {w : World} {base b : Nat} {v : Value} {s : RS} (h : RdIs w base b v s) :
    Calls Tryd.prog 85 #[.pointer (some ⟨b, 0, none⟩)] w fun r w' => r = .returned (.int .u32 (s.num 4)) ∧ RGoes w w' base b v (s.next 4) := by
  have HS := Lib.hid (size32_ok w)
  have HN := Lib.hid (rnext_ok h 4 (by omega))
  have HTL := Lib.hid (took_len s 4)
  have HNB := Lib.hid (num_bd h.byte 4)
  have HNE := Lib.hid (show s.num 4 = leV (s.took 4) from rfl)
  have HTB := Lib.hid (took_byte h.byte 4)
  clear h
  go_enter Tryd.func85, Tryd.ntmps85
  go_wp2_with fail
  refine HS.out.mono ?_
  rintro e w1 ⟨rfl, rfl⟩
  go_wp2_with fail
  refine HN.out.mono ?_
  rintro e w1 ⟨v', rfl, hb, hg⟩
  generalize s.took 4 = x at *
  have HB := Lib.hid hb
  have HG := Lib.hid hg
  have hxl := hb.len
  obtain ⟨ob, c, rfl, hc1, hc2, _⟩ := hb
  unfold maxLen at hxl hc2
  clear hg HS HN
  go_wp2_with fail
  go_loop [3, 10] (fun s3 s10 => ∃ k : Nat, k ≤ x.length ∧ s10 = .int .i64 k ∧ s3 = .int .u64 (leV (x.take k))) (fun _ i => x.length - (intOf i).toNat)
  case atStart => exact ⟨0, Nat.zero_le _, rfl, rfl⟩
  case round =>
    obtain ⟨k, hk, rfl, rfl⟩ := hrel
    by_cases hlt : k < x.length
    · obtain ⟨g2, o2, c2, hv2, _, _, hat2⟩ := HB.out.at (by omega)
      simp only [Value.slice.injEq] at hv2
      obtain ⟨rfl, _, rfl⟩ := hv2
      obtain ⟨hcell, hb0, hb1⟩ := hat2 k _ (List.getElem?_eq_getElem hlt)
      have HSN := Lib.hid (take_snocI x k hlt)
      have k8 : k < 8 := by have := HTL.out; omega
      have hlk : (x.take k).length = k := by rw [List.length_take]; omega
      have hvb := leV_bd (x.take k) fun b hb => HTB.out b (List.mem_of_mem_take hb)
      rw [hlk] at hvb
      have HSNV := Lib.hid (leV_snoc (x.take k) x[k])
      rw [hlk] at HSNV
      generalize hv1 : leV (x.take k) = vv at *
      generalize x[k] = y at *
      have HOR := Lib.hid (bits_or64 k8 hvb.1 hvb.2 hb0 hb1)
      have HV1 := Lib.hid hv1
      have kb : 8 * (k : Int) < 64 := by omega
      have ke : (8 * (k : Int)).toNat = 8 * k := by omega
      have hlt' : (k : Int) < (x.length : Int) := by omega
      clear hat2 hlk hvb hv1
      go_wp2
      go_round
      case rel => exact ⟨k + 1, by omega, by go_num, by rw [HSN.out, HSNV.out, HOR.out]⟩
      case measure => simp [intOf]; omega
    · have hke : k = x.length := by omega
      subst hke
      rw [List.take_length, ← HNE.out]
      have hb := HNB.out
      obtain ⟨nv, hnv⟩ : ∃ nv, nv = s.num 4 := ⟨_, rfl⟩
      rw [← hnv] at hb ⊢
      have HNV := Lib.hid hnv
      clear hnv
      obtain ⟨hb0, hb1⟩ := hb
      have hb2 : nv ≤ 4294967295 := by
        have : (256 : Int) ^ 4 = 4294967295 + 1 := by decide
        omega
      clear hb1
      go_wp2
      go_ret
      exact ⟨by rw [← HNV.out]; rfl, HG.out⟩

set_option maxHeartbeats 1000000 in
set_option maxRecDepth 100000 in
theorem get64_ok {w : World} {base b : Nat} {v : Value} {s : RS} (h : RdIs w base b v s) :
    Calls Tryd.prog 80 #[.pointer (some ⟨b, 0, none⟩)] w fun r w' => r = .returned (.int .u64 (s.num 8)) ∧ RGoes w w' base b v (s.next 8) := by
  have HS := Lib.hid (size64_ok w)
  have HN := Lib.hid (rnext_ok h 8 (by omega))
  have HTL := Lib.hid (took_len s 8)
  have HNB := Lib.hid (num_bd h.byte 8)
  have HNE := Lib.hid (show s.num 8 = leV (s.took 8) from rfl)
  have HTB := Lib.hid (took_byte h.byte 8)
  clear h
  go_enter Tryd.func80, Tryd.ntmps80
  go_wp2_with fail
  refine HS.out.mono ?_
  rintro e w1 ⟨rfl, rfl⟩
  go_wp2_with fail
  refine HN.out.mono ?_
  rintro e w1 ⟨v', rfl, hb, hg⟩
  generalize s.took 8 = x at *
  have HB := Lib.hid hb
  have HG := Lib.hid hg
  have hxl := hb.len
  obtain ⟨ob, c, rfl, hc1, hc2, _⟩ := hb
  unfold maxLen at hxl hc2
  clear hg HS HN
  go_wp2_with fail
  go_loop [3, 10] (fun s3 s10 => ∃ k : Nat, k ≤ x.length ∧ s10 = .int .i64 k ∧ s3 = .int .u64 (leV (x.take k))) (fun _ i => x.length - (intOf i).toNat)
  case atStart => exact ⟨0, Nat.zero_le _, rfl, rfl⟩
  case round =>
    obtain ⟨k, hk, rfl, rfl⟩ := hrel
    by_cases hlt : k < x.length
    · obtain ⟨g2, o2, c2, hv2, _, _, hat2⟩ := HB.out.at (by omega)
      simp only [Value.slice.injEq] at hv2
      obtain ⟨rfl, _, rfl⟩ := hv2
      obtain ⟨hcell, hb0, hb1⟩ := hat2 k _ (List.getElem?_eq_getElem hlt)
      have HSN := Lib.hid (take_snocI x k hlt)
      have k8 : k < 8 := by have := HTL.out; omega
      have hlk : (x.take k).length = k := by rw [List.length_take]; omega
      have hvb := leV_bd (x.take k) fun b hb => HTB.out b (List.mem_of_mem_take hb)
      rw [hlk] at hvb
      have HSNV := Lib.hid (leV_snoc (x.take k) x[k])
      rw [hlk] at HSNV
      generalize hv1 : leV (x.take k) = vv at *
      generalize x[k] = y at *
      have HOR := Lib.hid (bits_or64 k8 hvb.1 hvb.2 hb0 hb1)
      have HV1 := Lib.hid hv1
      have kb : 8 * (k : Int) < 64 := by omega
      have ke : (8 * (k : Int)).toNat = 8 * k := by omega
      have hlt' : (k : Int) < (x.length : Int) := by omega
      clear hat2 hlk hvb hv1
      go_wp2
      go_round
      case rel => exact ⟨k + 1, by omega, by go_num, by rw [HSN.out, HSNV.out, HOR.out]⟩
      case measure => simp [intOf]; omega
    · have hke : k = x.length := by omega
      subst hke
      rw [List.take_length, ← HNE.out]
      have hb := HNB.out
      obtain ⟨nv, hnv⟩ : ∃ nv, nv = s.num 8 := ⟨_, rfl⟩
      rw [← hnv] at hb ⊢
      have HNV := Lib.hid hnv
      clear hnv
      obtain ⟨hb0, hb1⟩ := hb
      have hb2 : nv ≤ 18446744073709551615 := by
        have : (256 : Int) ^ 8 = 18446744073709551615 + 1 := by decide
        omega
      clear hb1
      go_wp2
      go_ret
      exact ⟨by rw [← HNV.out]; rfl, HG.out⟩
end Go.Proofs.YtfihpiommicdbaaDoor
