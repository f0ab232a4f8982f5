/- HoursTurn: windows stand one behind the other, and one frame later all is the same: for every input. No condition. -/
import Derived.Test.YtkeoaeeneenkaaaHrsF
namespace Go.Proofs.Ytkeoaeeneenkaaa
open Go.RowKit Go.Cl
set_option linter.unusedVariables false
set_option linter.unusedSimpArgs false
attribute [local go_sem] lt_add_one' blk_alloc_past blk_alloc_at blk_drew blk_setCell_ne

theorem Tab.Ok.at_of {T : Tab} (h : T.Ok) {t k : Int} (hk : 0 ≤ k) (h1 : T.raw k ≤ t) (h2 : t < T.raw (k + 1)) (ht : t ≤ 9223372036854775807) : T.at1 t = k ∧ T.at2 t = decide (t - T.raw k < (T.win k).n) := by
  have r0 := h.raw_nonneg hk
  have hc : capT t = t := by unfold capT; omega
  have hb := h.beg_at (t := t) (by omega) hk (by omega) (by omega)
  unfold Tab.at1 Tab.at2
  rw [hb, if_neg (by omega), if_neg (by omega), show k + 1 - 1 = k by omega, hc, T.sta_eq, if_neg (by omega), IntKind.wrap_u64, Int.emod_eq_of_lt (by omega) (by omega)]
  exact ⟨rfl, rfl⟩

theorem Tab.Ok.nxt_of {T : Tab} (h : T.Ok) {t k : Int} (hk : 0 ≤ k) (ht0 : 0 ≤ t) (ht : t ≤ 9223372036854775807) (h1 : t ≤ T.raw k) (h2 : k = 0 ∨ T.raw (k - 1) < t) : T.nxt t = k := by
  unfold Tab.nxt
  by_cases q : t = 0
  · rw [if_pos q]
    rcases h2 with h2 | h2
    · exact h2.symm
    · by_cases q0 : k = 0
      · exact q0.symm
      · have := h.raw_nonneg (show 0 ≤ k - 1 by omega)
        omega
  · rw [if_neg q]
    have hc : capT t = t := by unfold capT; omega
    have hc2 : capT (t - 1) = t - 1 := by unfold capT; omega
    rw [hc]
    have a := h.beg_iff (t := t - 1) (by omega) hk
    rw [hc2] at a
    rcases h2 with h2 | h2
    · subst h2
      have := (h.beg_le (t := t - 1) (by omega)).1
      have : ¬ 0 < T.beg (t - 1) := fun hh => by have := a.2 hh; omega
      omega
    · by_cases q0 : k = 0
      · subst q0
        have := (h.beg_le (t := t - 1) (by omega)).1
        have : ¬ 0 < T.beg (t - 1) := fun hh => by have := a.2 hh; omega
        omega
      · have b := (h.beg_iff (t := t - 1) (by omega) (show 0 ≤ k - 1 by omega)).1 (by rw [hc2]; omega)
        have : ¬ k < T.beg (t - 1) := fun hh => by have := a.2 hh; omega
        omega

/-- What the law asks, of a table whose frame is short. -/
theorem turn_facts {T : Tab} (h : T.Ok) (hm : T.major ≤ 5005) {k : Int} (k0 : 0 ≤ k) (k1 : k < 1000000) :
    ∃ s len nx, 0 ≤ s ∧ s ≤ 10000000000 ∧ 1 ≤ len ∧ len ≤ 5005 ∧ s + len ≤ nx ∧ nx ≤ 10000000000 ∧ T.sta k = s ∧ (T.win k).n = len ∧ T.sta (k + 1) = nx ∧ T.at1 s = k ∧ T.at2 s = true ∧ T.at1 (s + len - 1) = k ∧ T.at2 (s + len - 1) = true ∧
      T.at1 (s + len) = (if nx = s + len then k + 1 else k) ∧ T.at2 (s + len) = (nx == s + len) ∧ T.nxt s = k ∧ T.nxt (s + 1) = k + 1 ∧ T.nxt nx = k + 1 ∧ T.sta (k + T.n) = s + T.major ∧ T.win (k + T.n) = T.win k := by
  have hn := h.n_pos
  have m1 := h.m1
  have up : ∀ j : Int, 0 ≤ j → j ≤ 1000000 → T.raw j ≤ 5005010000 := by
    intro j j0 j1
    have a := h.winE j0
    have q0 : 0 ≤ j / T.n := Int.ediv_nonneg j0 (by omega)
    have q1 : j / T.n ≤ j := Int.ediv_le_self _ j0
    have b : j / T.n * T.major ≤ j / T.n * 5005 := Int.mul_le_mul_of_nonneg_left hm q0
    unfold Tab.raw
    omega
  have hs := up k k0 (by omega)
  have hx := up (k + 1) (by omega) (by omega)
  have r0 := h.raw_nonneg k0
  have st := h.raw_step k0
  have st2 := h.raw_step (show 0 ≤ k + 1 by omega)
  have w2 := h.winE (show 0 ≤ k + 1 by omega)
  have hw := h.winE k0
  have e1 : T.sta k = T.raw k := by rw [T.sta_eq, if_neg (by omega)]
  have e2 : T.sta (k + 1) = T.raw (k + 1) := by rw [T.sta_eq, if_neg (by omega)]
  have e3 : T.sta (k + T.n) = T.raw k + T.major := by rw [T.sta_eq, h.raw_add, if_neg (by omega)]
  have a1 := h.at_of k0 (Int.le_refl _) (by omega) (by omega)
  have a2 := h.at_of (t := T.raw k + (T.win k).n - 1) k0 (by omega) (by omega) (by omega)
  have n1 := h.nxt_of (t := T.raw k) k0 r0 (by omega) (Int.le_refl _) (by
    by_cases q : k = 0
    · exact .inl q
    · exact .inr (h.raw_lt (by omega) (by omega)))
  have n2 := h.nxt_of (t := T.raw k + 1) (show 0 ≤ k + 1 by omega) (by omega) (by omega) (by omega) (.inr (by rw [show k + 1 - 1 = k by omega]; omega))
  have n3 := h.nxt_of (t := T.raw (k + 1)) (show 0 ≤ k + 1 by omega) (by omega) (by omega) (Int.le_refl _) (.inr (by rw [show k + 1 - 1 = k by omega]; omega))
  refine ⟨T.raw k, (T.win k).n, T.raw (k + 1), r0, by omega, hw.2.2.1, by omega, st, by omega, e1, rfl, e2, a1.1, by rw [a1.2]; simp; omega, a2.1, by rw [a2.2]; simp; omega, ?_, ?_, n1, n2, n3, e3, T.win_add k⟩
  · by_cases q : T.raw (k + 1) = T.raw k + (T.win k).n
    · rw [if_pos q]
      exact (h.at_of (show 0 ≤ k + 1 by omega) (by omega) (by omega) (by omega)).1
    · rw [if_neg q]
      exact (h.at_of k0 (by omega) (by omega) (by omega)).1
  · by_cases q : T.raw (k + 1) = T.raw k + (T.win k).n
    · rw [(h.at_of (show 0 ≤ k + 1 by omega) (by omega) (by omega) (by omega)).2, q]; simp; omega
    · rw [(h.at_of k0 (by omega) (by omega) (by omega)).2, beq_eq_false_iff_ne.2 q]; simp; omega

set_option maxHeartbeats 4000000 in
set_option maxRecDepth 100000 in
theorem turn_walk (w : World) {v0 : Value} (h0 : ∃ us, NumsAre .i64 w v0 us) (a1 : Int) (w1 : (Lit.int .u64 a1).wf = true) :
    Calls Try.prog 3 #[v0, .int .u64 a1] w fun e w' => e = .returned (.bool true) ∧ Below w.heap.size w w' := by
  obtain ⟨raw, hraw⟩ := h0
  obtain ⟨oa, cap, rfl, _⟩ := id hraw
  have TB := Lib.hid (table_any hraw)
  have hu := u64_of w1
  obtain ⟨u0, u1⟩ := hu
  clear hraw w1
  go_enter Try.func3, Try.ntmps3
  go_wp2_with (fail)
  refine TB.out.mono ?_
  rintro e wa ⟨b, sv, T, rfl, hh, hm, hb, hsv, hc⟩
  have hk0 : 0 ≤ a1 % 1000000 := Int.emod_nonneg _ (by omega)
  have hk1 : a1 % 1000000 < 1000000 := Int.emod_lt_of_pos _ (by omega)
  obtain ⟨s, len, nx, s0, s1, l0, l1, nx0, nx1, E1, E2, E3, A1, A1', A2, A2', A3, A3', N1, N2, N3, L1, L2⟩ := turn_facts hh.ok hm hk0 hk1
  have tn1 := hh.ok.n_pos
  have tn2 : T.n ≤ 32 := by have := hh.ok.n2; unfold Tab.n; omega
  have tm1 := hh.ok.m1
  obtain ⟨k, hk⟩ : ∃ k, k = a1 % 1000000 := ⟨_, rfl⟩
  rw [← hk] at hk0 hk1 E1 E2 E3 A1 A2 A3 N1 N2 N3 L1 L2
  obtain ⟨x1, hx1⟩ : ∃ x, x = k := ⟨_, rfl⟩
  have fx1 : (x1 != k) = false := by rw [hx1]; simp
  obtain ⟨x2, hx2⟩ : ∃ x, x = k := ⟨_, rfl⟩
  have fx2 : (x2 != k) = false := by rw [hx2]; simp
  obtain ⟨y1, hy1⟩ : ∃ x, x = k := ⟨_, rfl⟩
  have fy1 : (y1 == k) = true := by rw [hy1]; simp
  obtain ⟨y2, hy2⟩ : ∃ x, x = k + 1 := ⟨_, rfl⟩
  have fy2 : (y2 == k + 1) = true := by rw [hy2]; simp
  obtain ⟨y3, hy3⟩ : ∃ x, x = k + 1 := ⟨_, rfl⟩
  have fy3 : (y3 == k + 1) = true := by rw [hy3]; simp
  obtain ⟨y4, hy4⟩ : ∃ x, x = s + T.major := ⟨_, rfl⟩
  have fy4 : (y4 == s + T.major) = true := by rw [hy4]; simp
  obtain ⟨le2, hle2⟩ : ∃ x, x = len := ⟨_, rfl⟩
  have fle2 : (le2 == len) = true := by rw [hle2]; simp
  obtain ⟨o2, ho2⟩ : ∃ x, x = (T.win k).c := ⟨_, rfl⟩
  have fo2 : ((T.win k).c == o2) = true := by rw [ho2]; simp
  have S1 := Lib.hid (fun (wy : World) (hy : Chg (fun _ => False) wa wy) => (by have := start_ok (hh.frame0 hy) k ⟨hk0, by omega⟩; rw [E1] at this; exact this : Calls Try.prog 7 #[ptrV b, .int .u64 k] wy fun e w' => e = .returned (.int .u64 s) ∧ Chg (fun _ => False) wy w'))
  have S2 := Lib.hid (fun (wy : World) (hy : Chg (fun _ => False) wa wy) => (by have := start_ok (hh.frame0 hy) (k + 1) ⟨by omega, by omega⟩; rw [E3] at this; exact this : Calls Try.prog 7 #[ptrV b, .int .u64 (k + 1)] wy fun e w' => e = .returned (.int .u64 nx) ∧ Chg (fun _ => False) wy w'))
  have S3 := Lib.hid (fun (wy : World) (hy : Chg (fun _ => False) wa wy) => (by have := start_ok (hh.frame0 hy) (k + T.n) ⟨by omega, by omega⟩; rw [L1] at this; rw [hy4]; exact this : Calls Try.prog 7 #[ptrV b, .int .u64 (k + T.n)] wy fun e w' => e = .returned (.int .u64 y4) ∧ Chg (fun _ => False) wy w'))
  have LN1 := Lib.hid (fun (wy : World) (hy : Chg (fun _ => False) wa wy) => (by have := length_ok (hh.frame0 hy) k ⟨hk0, by omega⟩; rw [E2] at this; exact this : Calls Try.prog 8 #[ptrV b, .int .u64 k] wy fun e w' => e = .returned (.int .u64 len) ∧ Chg (fun _ => False) wy w'))
  have LN2 := Lib.hid (fun (wy : World) (hy : Chg (fun _ => False) wa wy) => (by have := length_ok (hh.frame0 hy) (k + T.n) ⟨by omega, by omega⟩; rw [L2, E2] at this; rw [hle2]; exact this : Calls Try.prog 8 #[ptrV b, .int .u64 (k + T.n)] wy fun e w' => e = .returned (.int .u64 le2) ∧ Chg (fun _ => False) wy w'))
  have O1 := Lib.hid (fun (wy : World) (hy : Chg (fun _ => False) wa wy) => owner_ok (hh.frame0 hy) k ⟨hk0, by omega⟩)
  have O2 := Lib.hid (fun (wy : World) (hy : Chg (fun _ => False) wa wy) => (by have := owner_ok (hh.frame0 hy) (k + T.n) ⟨by omega, by omega⟩; rw [L2] at this; rw [ho2]; exact this : Calls Try.prog 11 #[ptrV b, .int .u64 (k + T.n)] wy fun e w' => e = .returned (.int .i64 o2) ∧ Chg (fun _ => False) wy w'))
  have AT1 := Lib.hid (fun (wy : World) (hy : Chg (fun _ => False) wa wy) => (by have := at_ok (hh.frame0 hy) s ⟨by omega, by omega⟩; rw [A1, A1'] at this; rw [hx1]; exact this : Calls Try.prog 9 #[ptrV b, .int .u64 s] wy fun e w' => e = .returned (.tuple #[.int .u64 x1, .bool true]) ∧ Chg (fun _ => False) wy w'))
  have AT2 := Lib.hid (fun (wy : World) (hy : Chg (fun _ => False) wa wy) => (by have := at_ok (hh.frame0 hy) (s + len - 1) ⟨by omega, by omega⟩; rw [A2, A2'] at this; rw [hx2]; exact this : Calls Try.prog 9 #[ptrV b, .int .u64 (s + len - 1)] wy fun e w' => e = .returned (.tuple #[.int .u64 x2, .bool true]) ∧ Chg (fun _ => False) wy w'))
  obtain ⟨mo, hmo⟩ : ∃ mo, mo = (nx == s + len) := ⟨_, rfl⟩
  obtain ⟨cc, hcc⟩ : ∃ cc, cc = (if nx = s + len then k + 1 else k) := ⟨_, rfl⟩
  have AT3 := Lib.hid (fun (wy : World) (hy : Chg (fun _ => False) wa wy) => (by have := at_ok (hh.frame0 hy) (s + len) ⟨by omega, by omega⟩; rw [A3, A3', ← hmo, ← hcc] at this; exact this : Calls Try.prog 9 #[ptrV b, .int .u64 (s + len)] wy fun e w' => e = .returned (.tuple #[.int .u64 cc, .bool mo]) ∧ Chg (fun _ => False) wy w'))
  have NX1 := Lib.hid (fun (wy : World) (hy : Chg (fun _ => False) wa wy) => (by have := next_ok (hh.frame0 hy) s ⟨by omega, by omega⟩; rw [N1] at this; rw [hy1]; exact this : Calls Try.prog 10 #[ptrV b, .int .u64 s] wy fun e w' => e = .returned (.int .u64 y1) ∧ Chg (fun _ => False) wy w'))
  have NX2 := Lib.hid (fun (wy : World) (hy : Chg (fun _ => False) wa wy) => (by have := next_ok (hh.frame0 hy) (s + 1) ⟨by omega, by omega⟩; rw [N2] at this; rw [hy2]; exact this : Calls Try.prog 10 #[ptrV b, .int .u64 (s + 1)] wy fun e w' => e = .returned (.int .u64 y2) ∧ Chg (fun _ => False) wy w'))
  have NX3 := Lib.hid (fun (wy : World) (hy : Chg (fun _ => False) wa wy) => (by have := next_ok (hh.frame0 hy) nx ⟨by omega, by omega⟩; rw [N3] at this; rw [hy3]; exact this : Calls Try.prog 10 #[ptrV b, .int .u64 nx] wy fun e w' => e = .returned (.int .u64 y3) ∧ Chg (fun _ => False) wy w'))
  have HK := Lib.hid hk
  have C0 := Lib.hid hc
  have MO := Lib.hid (And.intro hmo hcc)
  have tmm : T.major ≤ 5005 := hm
  clear hx1 hx2 hy1 hy2 hy3 hy4 hle2 ho2
  clear hh hb hsv hc E1 E2 E3 A1 A1' A2 A2' A3 A3' N1 N2 N3 L1 L2 hk hmo hcc hm TB
  unfold ptrV at *
  go_upto_region 5 with (fail)
  rw [← HK.out]
  go_wp2_with (fail)
  refine (S1.out _ (Chg.refl _ _)).mono ?_
  rintro e w2 ⟨rfl, h2⟩
  have C2 := Lib.hid h2
  clear h2
  go_wp2_with (fail)
  refine (LN1.out _ C2.out).mono ?_
  rintro e w3 ⟨rfl, h3⟩
  have C3 := Lib.hid (C2.out.trans h3 fun _ _ => id)
  clear h3
  go_wp2_with (fail)
  refine (AT1.out _ C3.out).mono ?_
  rintro e w4 ⟨rfl, h4⟩
  have C4 := Lib.hid (C3.out.trans h4 fun _ _ => id)
  clear h4
  go_wp2_with (fail)
  refine (AT2.out _ C4.out).mono ?_
  rintro e w5 ⟨rfl, h5⟩
  have C5 := Lib.hid (C4.out.trans h5 fun _ _ => id)
  clear h5
  go_wp2_with (fail)
  refine (AT3.out _ C5.out).mono ?_
  rintro e w6 ⟨rfl, h6⟩
  have C6 := Lib.hid (C5.out.trans h6 fun _ _ => id)
  clear h6
  go_wp2_with (fail)
  refine (S2.out _ C6.out).mono ?_
  rintro e w7 ⟨rfl, h7⟩
  have C7 := Lib.hid (C6.out.trans h7 fun _ _ => id)
  clear h7
  go_upto_region 11 with (fail)
  go_cut [115] from 23 to 176 (fun s115 wq => s115 = .bool false ∧ wq = w7)
  case first =>
    obtain ⟨m1, m2⟩ := MO.out
    by_cases q : nx = s + len
    · have b1 : (cc != k + 1) = false := by rw [m2, if_pos q]; simp
      have b2 : mo = true := by rw [m1, q]; simp
      have b3 : (nx == s + len) = true := by simp [q]
      have b4 : ¬ (nx < s + len) := by omega
      subst b2
      clear m1 m2 q
      go_wp2
      go_meet
      case rel => exact ⟨by simp, rfl⟩
    · have b1 : (cc != k) = false := by rw [m2, if_neg q]; simp
      have b2 : mo = false := by rw [m1]; simp [q]
      have b3 : (nx == s + len) = false := by simp [q]
      have b4 : ¬ (nx < s + len) := by omega
      subst b2
      clear m1 m2 q
      go_wp2
      go_meet
      case rel => exact ⟨by simp, rfl⟩
  case rest =>
    obtain ⟨rfl, rfl⟩ := hcut
    go_wp2_with (fail)
    refine (NX1.out _ C7.out).mono ?_
    rintro e w8 ⟨rfl, h8⟩
    have C8 := Lib.hid (C7.out.trans h8 fun _ _ => id)
    clear h8
    go_wp2_with (fail)
    refine (NX2.out _ C8.out).mono ?_
    rintro e w9 ⟨rfl, h9⟩
    have C9 := Lib.hid (C8.out.trans h9 fun _ _ => id)
    clear h9
    go_wp2_with (fail)
    refine (NX3.out _ C9.out).mono ?_
    rintro e w10 ⟨rfl, h10⟩
    have C10 := Lib.hid (C9.out.trans h10 fun _ _ => id)
    clear h10
    go_wp2_with (fail)
    refine (S3.out _ C10.out).mono ?_
    rintro e w11 ⟨rfl, h11⟩
    have C11 := Lib.hid (C10.out.trans h11 fun _ _ => id)
    clear h11
    go_wp2_with (fail)
    refine (O1.out _ C11.out).mono ?_
    rintro e w12 ⟨rfl, h12⟩
    have C12 := Lib.hid (C11.out.trans h12 fun _ _ => id)
    clear h12
    go_wp2_with (fail)
    refine (O2.out _ C12.out).mono ?_
    rintro e w13 ⟨rfl, h13⟩
    have C13 := Lib.hid (C12.out.trans h13 fun _ _ => id)
    clear h13
    go_wp2_with (fail)
    refine (LN2.out _ C13.out).mono ?_
    rintro e w14 ⟨rfl, h14⟩
    have C14 := Lib.hid (C13.out.trans h14 fun _ _ => id)
    clear h14
    go_wp2
    go_ret
    exact ⟨by simp, (C0.out.trans C14.out fun _ _ => id).below (Nat.le_refl _) (fun _ _ => id)⟩
end Go.Proofs.Ytkeoaeeneenkaaa
