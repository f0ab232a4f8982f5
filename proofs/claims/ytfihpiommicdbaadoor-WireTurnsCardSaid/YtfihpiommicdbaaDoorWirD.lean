/- Writers: contracts of size and put, of each kind of number; of Byte, Half, Word, Long. No condition. (Printed by genD.py.) -/
import Derived.Test.YtfihpiommicdbaaDoorWirC
namespace Go.Proofs.YtfihpiommicdbaaDoor
open Go.RowKit Go.Cl
set_option linter.unusedVariables false
set_option linter.unusedSimpArgs false
attribute [local go_sem] lt_add_one' blk_alloc_past blk_alloc_at blk_drew blk_setCell_ne

/-- A number as so many bytes, the lowest first. -/
def leB (v : Int) (n : Nat) : List Int := (List.range n).map fun i => v / 256 ^ i % 256
theorem leB_len (v : Int) (n : Nat) : (leB v n).length = n := by simp [leB]
theorem leB_byte (v : Int) (n : Nat) : Bytes (leB v n) := fun b hb => by
  obtain ⟨i, _, rfl⟩ := List.mem_map.1 hb
  omega
theorem leB_succ (v : Int) (n : Nat) : leB v (n + 1) = leB v n ++ [v / 256 ^ n % 256] := by simp [leB, List.range_succ]
theorem leB_zero (v : Int) : leB v 0 = [] := rfl
theorem pow8 (k : Nat) : (2 : Int) ^ (8 * k) = 256 ^ k := by
  rw [Int.pow_mul]; rfl
def allOnes (n k : Nat) : Int := 256 ^ (n - k) - 1
theorem allOnes_step {n k : Nat} (h : k < n) : 0 < allOnes n k ∧ allOnes n k / 256 = allOnes n (k + 1) ∧ 0 ≤ allOnes n (k + 1) ∧ allOnes n (k + 1) ≤ allOnes n k := by
  unfold allOnes
  obtain ⟨d, hd⟩ : ∃ d, n - k = d + 1 := ⟨n - k - 1, by omega⟩
  have hd2 : n - (k + 1) = d := by omega
  rw [hd, hd2, Int.pow_succ]
  have : (0 : Int) < 256 ^ d := Int.pow_pos (by omega)
  omega
theorem allOnes_end (n : Nat) : allOnes n n = 0 := by simp [allOnes]
theorem allOnes_le (n k : Nat) : allOnes n k ≤ allOnes n 0 := by
  unfold allOnes
  have h : ∀ d e : Nat, (256 : Int) ^ d ≤ 256 ^ (d + e) := fun d e => by
    induction e with
    | zero => exact Int.le_refl _
    | succ e ih =>
      rw [← Nat.add_assoc, Int.pow_succ]
      have : (0 : Int) < 256 ^ (d + e) := Int.pow_pos (by omega)
      omega
  have := h (n - k) (n - (n - k))
  rw [show n - k + (n - (n - k)) = n - 0 by omega] at this
  omega
theorem WGoes.after {w w1 w2 : World} {base b m : Nat} {v v1 : Value} {s2 : WS} (a2 : Chg (WFoot b m v) w w1) (a3 : ∀ i, WFoot b m v1 i → WFoot b m v i ∨ w.heap.size ≤ i) (h2 : WGoes w1 w2 base b m v1 s2) : WGoes w w2 base b m v s2 := by
  obtain ⟨v2, b1, b2, b3⟩ := h2
  refine ⟨v2, b1, a2.step b2 (fun _ _ h => h) fun i hi h => ?_, fun i hi => ?_⟩
  · rcases a3 i h with h | h
    · exact h
    · omega
  · rcases b3 i hi with h | h
    · exact a3 i h
    · exact .inr (Nat.le_trans a2.size h)
/-- One more byte in the row. -/
theorem WrIs.push {w w2 w3 : World} {base b m : Nat} {v v' : Value} {s : WS} {x : Int} (h : WrIs w base b m v s) (hc : Chg (fun _ => False) w w2) (hown : w3.ownsRow base 5 1 v' (s.xs.length + 1) (u8s s.xs ++ [.int .u8 x])) (hg : w2.grownBy w3 v.ownBlock) (hl : v'.ownBlock = v.ownBlock ∨ v'.ownBlock = some w2.heap.size)
    (hx : 0 ≤ x ∧ x ≤ 255) (hr : (s.xs.length : Int) + 1 ≤ s.lim) : WGoes w (w3.setCell ⟨b, 1, none⟩ v') base b m v { s with xs := s.xs ++ [x] } := by
  obtain ⟨n1, n2, n3⟩ := h.ne
  have hb := blk_lt h.st
  have c1 : Chg (fun i => some i = v.ownBlock) w w3 := hc.step (Chg.of_grown hg) (fun _ _ h => h.elim) fun _ _ h => h
  have hst := c1.blk' h.st n2
  have c2 : Chg (fun i => i = b) w3 (w3.setCell ⟨b, 1, none⟩ v') := Chg.setCell (S := fun i => i = b) (Chg.refl _ _) (p := ⟨b, 1, none⟩) (fun _ => rfl) _
  have nb' : v'.ownBlock ≠ some b := fun e => by
    obtain ⟨_, cur, hc⟩ := row_block hown e
    rw [hst] at hc
    simp only [Option.some.injEq, Obj.cells.injEq] at hc
    exact absurd hc.2.1 (by decide)
  refine ⟨v', ⟨?_, ?_, (h.mp.frame c1 n3).frame c2 fun e => n1 e.symm, ⟨h.fine.l0, h.fine.l1, ?_, ?_, ?_, h.fine.nodup⟩, h.nb, h.nm⟩, c1.step c2 (fun _ _ h => .inr (.inr h)) (fun _ _ h => .inl h), fun i hi => ?_⟩
  · rw [blk_setCell_eq, hst]
    simp [objSet]
  · refine row_frame (by simpa using hown) c2 fun g hg e => nb' (by rw [hg, e])
  · simp; omega
  · intro y hy
    rcases List.mem_append.1 hy with hy | hy
    · exact h.fine.byte y hy
    · simp at hy; subst hy; exact hx
  · intro p hp
    have := h.fine.places p hp
    simp; omega
  · rcases hi with hi | hi | hi
    · exact .inl (.inl hi)
    · exact .inl (.inr (.inl hi))
    · rcases hl with hl | hl
      · exact .inl (.inr (.inr (hi.trans hl)))
      · rw [hl] at hi
        obtain rfl := Option.some.inj hi
        exact .inr hc.size

set_option maxHeartbeats 1000000 in
set_option maxRecDepth 100000 in
theorem size8_ok (w : World) : Calls Tryd.prog 90 #[] w fun e w' => e = .returned (.int .i64 1) ∧ w = w' := by
  have h0 : allOnes 1 0 = 255 := by decide
  have HZ := Lib.hid h0
  go_enter Tryd.func90, Tryd.ntmps90
  go_wp2
  go_loop [1, 2] (fun s1 s2 => ∃ k : Nat, k ≤ 1 ∧ s1 = .int .i64 k ∧ s2 = .int .u8 (allOnes 1 k)) (fun i _ => 1 - (intOf i).toNat)
  case atStart => exact ⟨0, by omega, rfl, by rw [HZ.out]; rfl⟩
  case round =>
    obtain ⟨k, hk, rfl, rfl⟩ := hrel
    by_cases hlt : k < 1
    · obtain ⟨a1, a2, a3, a4⟩ := allOnes_step hlt
      have a5 := allOnes_le 1 k
      rw [HZ.out] at a5
      generalize hA : allOnes 1 k = A at *
      generalize hA' : allOnes 1 (k + 1) = A' at *
      have HA' := Lib.hid hA'
      have hne : (A != 0) = true := by simp; omega
      clear hA hA' h0
      go_wp2
      go_round
      case rel => exact ⟨k + 1, by omega, by go_num, by rw [HA'.out]⟩
      case measure => simp [intOf]; omega
    · have hke : k = 1 := by omega
      subst hke
      rw [allOnes_end]
      clear h0
      go_wp2
      go_ret
      exact ⟨rfl, rfl⟩

set_option maxHeartbeats 2000000 in
set_option maxRecDepth 100000 in
theorem put8_ok {w : World} {base b m : Nat} {v : Value} {s : WS} (h : WrIs w base b m v s) (hbase : base ≤ w.heap.size) (x : Int) (hx0 : 0 ≤ x) (hx1 : x ≤ 255) :
    Calls Tryd.prog 86 #[ptrV b, .int .u8 x] w fun r w' => r = .returned (.tuple #[]) ∧ WGoes w w' base b m v (s.raw (leB x 1)) := by
  have HR := Lib.hid (wroom_ok h 1 (by omega) (by omega))
  have H := Lib.hid h
  have HS := Lib.hid (size8_ok w)
  have HBASE := Lib.hid hbase
  obtain ⟨i0, hi, hz0, hz1, hz2⟩ := info5z
  clear h hbase
  by_cases hr : s.roomB 1 = true
  · have HE := Lib.hid (show s.raw (leB x 1) = { s with xs := s.xs ++ leB x 1 } by unfold WS.raw; rw [leB_len, if_pos (show s.roomB ((1 : Nat) : Int) = true from hr)])
    have hr2 : s.room 1 = s ∧ (s.xs.length : Int) + 1 ≤ s.lim := by
      unfold WS.roomB at hr
      simp at hr
      exact ⟨by unfold WS.room; rw [if_neg (by omega)], by omega⟩
    have HLIM := Lib.hid hr2.2
    rw [hr, hr2.1] at HR
    clear hr hr2
    unfold ptrV at *
    go_enter Tryd.func86, Tryd.ntmps86
    go_wp2_with fail
    refine HS.out.mono ?_
    rintro e w1 ⟨rfl, rfl⟩
    go_wp2_with fail
    refine HR.out.mono ?_
    rintro e w1 ⟨rfl, hg⟩
    have HG := Lib.hid hg
    clear hg HR HS
    go_wp2_with fail
    go_loopw [12] (fun s12 wr => ∃ k : Nat, s12 = .int .i64 k ∧ k ≤ 1 ∧ WGoes w wr base b m v { s with xs := s.xs ++ leB x k }) (fun i _ => 1 - (intOf i).toNat)
    case atStart => exact ⟨0, rfl, by omega, by rw [leB_zero, List.append_nil]; exact HG.out⟩
    case round =>
      obtain ⟨k, rfl, hk, hg⟩ := hrel
      have HGk := Lib.hid hg
      clear hg HG
      by_cases hlt : k < 1
      · have hlt' : (k : Int) < 1 := by omega
        obtain ⟨v1, hw1, hc1, hf1⟩ := HGk.out
        obtain ⟨ys, hys⟩ : ∃ ys, ys = s.xs ++ leB x k := ⟨_, rfl⟩
        have hlen : ys.length = s.xs.length + k := by rw [hys, List.length_append, leB_len]
        rw [← hys] at hw1
        have HYS := Lib.hid hys
        have HLEN := Lib.hid hlen
        clear hys hlen
        obtain ⟨hb, _, f1, _, _, z1, _⟩ := hw1.facts
        obtain ⟨o1, c1, hv, _⟩ := row_form hw1.row
        dsimp only at hv f1
        subst hv
        have HW := Lib.hid hw1
        have HRow := Lib.hid (fun (wy : World) (hy : Chg (fun _ => False) wr wy) => row_frame hw1.row hy fun _ _ => id)
        have HL12 := Lib.hid (And.intro hw1.fine.l1 HLIM.out)
        have HBS := Lib.hid (Nat.le_trans HBASE.out hc1.size)
        have HNB := Lib.hid (show some b ≠ (Value.slice o1 ys.length c1).ownBlock from hw1.ne.2.1)
        have kb : 8 * (k : Int) < 64 := by omega
        have wx : IntKind.u64.wrap x = x := by rw [IntKind.wrap_u64]; omega
        have wk : IntKind.i64.wrap (8 * (k : Int)) = 8 * (k : Int) := by rw [IntKind.wrap_i64]; omega
        have wk0 : 0 ≤ 8 * (k : Int) := by omega
        have ke : (8 * (k : Int)).toNat = 8 * k := by omega
        have wv : IntKind.u8.wrap (x / 2 ^ (8 * k)) = x / 256 ^ k % 256 := by rw [IntKind.wrap_u8, pow8]
        have hxb : 0 ≤ x / 256 ^ k % 256 ∧ x / 256 ^ k % 256 ≤ 255 := by omega
        have HXB := Lib.hid hxb
        have HSUC := Lib.hid (leB_succ x k)
        generalize x / 256 ^ k % 256 = y at *
        have HC1 := Lib.hid hc1
        have HF1 := Lib.hid hf1
        clear hw1 hc1 hf1 hxb
        go_wp2_with fail
        go_region_law (first | (refine step_app rfl _ _ _ (by rfl) base 5 i0 (.int .u8 0) 1 1 Tryd.underlying24 hi hz0 hz1 hz2 rfl (by decide) (.slice o1 ys.length c1) ys.length (u8s ys) (by rfl) (HRow.out _ (by repeat (first | exact Chg.refl _ _ | apply Chg.drew | (refine Chg.setCell ?_ (by simp) _) | (refine Chg.alloc ?_ _) | (refine Chg.setBlock ?_ (by simp) _)))) _ 1 1 [.int .u8 y] (by rfl) (SrcIs.some (by rfl) (by simp [Value.oneCell']) (by first | exact World.news_of_block (heap_alloc_new _ _) | exact World.news_of_block (w := World.drew _) (heap_alloc_new _ _))) (fun h => by cases h) (by have := HL12.out; have := HLEN.out; unfold maxLen; omega) (by have := HL12.out; have := HLEN.out; omega) (by have := HBS.out; simp; omega) ?_; intro v2 w3 hown hgrow hlie; obtain ⟨ov, cv, rfl, hv1, hv2, _⟩ := row_form hown; have f1d := (hgrow.cell_far ⟨b, 1, none⟩ (Nat.lt_of_lt_of_le hb (by simp)) HNB.out); have z1d := (hgrow.frozen_far ⟨b, 1, none⟩ (Nat.lt_of_lt_of_le hb (by simp)) HNB.out); have HO := Lib.hid hown; have HGR := Lib.hid hgrow; have HLie := Lib.hid hlie; clear hown hgrow hlie))
        all_goals
          have E := Lib.hid (WGoes.after HC1.out HF1.out (WrIs.push HW.out (by repeat (first | exact Chg.refl _ _ | apply Chg.drew | (refine Chg.setCell ?_ (by simp) _) | (refine Chg.alloc ?_ _) | (refine Chg.setBlock ?_ (by simp) _))) (by simpa using HO.out) HGR.out HLie.out HXB.out (by have := HLIM.out; have := HLEN.out; dsimp only; omega)))
          have e2 : ys ++ [y] = s.xs ++ leB x (k + 1) := by rw [HSUC.out, ← List.append_assoc, ← HYS.out]
          dsimp only at E
          rw [e2] at E
          clear e2
          go_wp2
          go_roundw
          case rel => exact ⟨k + 1, by go_num, by omega, E.out⟩
          case measure => simp [intOf]; omega
      · have hke : k = 1 := by omega
        subst hke
        go_wp2
        go_end0
        exact ⟨rfl, by rw [HE.out]; exact HGk.out⟩
  · have hr' : s.roomB 1 = false := by simpa using hr
    have HE := Lib.hid (show s.raw (leB x 1) = s.room 1 by unfold WS.raw; rw [leB_len, if_neg (show ¬ s.roomB ((1 : Nat) : Int) = true from hr)]; rfl)
    rw [hr'] at HR
    clear hr hr'
    unfold ptrV at *
    go_enter Tryd.func86, Tryd.ntmps86
    go_wp2_with fail
    refine HS.out.mono ?_
    rintro e w1 ⟨rfl, rfl⟩
    go_wp2_with fail
    refine HR.out.mono ?_
    rintro e w1 ⟨rfl, hg⟩
    have HG := Lib.hid hg
    clear hg HR HS
    go_wp2
    refine bodyPost_ret (results_none rfl _ _ _) rfl ?_
    exact ⟨rfl, by rw [HE.out]; exact HG.out⟩

set_option maxHeartbeats 1000000 in
set_option maxRecDepth 100000 in
theorem size16_ok (w : World) : Calls Tryd.prog 93 #[] w fun e w' => e = .returned (.int .i64 2) ∧ w = w' := by
  have h0 : allOnes 2 0 = 65535 := by decide
  have HZ := Lib.hid h0
  go_enter Tryd.func93, Tryd.ntmps93
  go_wp2
  go_loop [1, 2] (fun s1 s2 => ∃ k : Nat, k ≤ 2 ∧ s1 = .int .i64 k ∧ s2 = .int .u16 (allOnes 2 k)) (fun i _ => 2 - (intOf i).toNat)
  case atStart => exact ⟨0, by omega, rfl, by rw [HZ.out]; rfl⟩
  case round =>
    obtain ⟨k, hk, rfl, rfl⟩ := hrel
    by_cases hlt : k < 2
    · obtain ⟨a1, a2, a3, a4⟩ := allOnes_step hlt
      have a5 := allOnes_le 2 k
      rw [HZ.out] at a5
      generalize hA : allOnes 2 k = A at *
      generalize hA' : allOnes 2 (k + 1) = A' at *
      have HA' := Lib.hid hA'
      have hne : (A != 0) = true := by simp; omega
      clear hA hA' h0
      go_wp2
      go_round
      case rel => exact ⟨k + 1, by omega, by go_num, by rw [HA'.out]⟩
      case measure => simp [intOf]; omega
    · have hke : k = 2 := by omega
      subst hke
      rw [allOnes_end]
      clear h0
      go_wp2
      go_ret
      exact ⟨rfl, rfl⟩

set_option maxHeartbeats 2000000 in
set_option maxRecDepth 100000 in
theorem put16_ok {w : World} {base b m : Nat} {v : Value} {s : WS} (h : WrIs w base b m v s) (hbase : base ≤ w.heap.size) (x : Int) (hx0 : 0 ≤ x) (hx1 : x ≤ 65535) :
    Calls Tryd.prog 87 #[ptrV b, .int .u16 x] w fun r w' => r = .returned (.tuple #[]) ∧ WGoes w w' base b m v (s.raw (leB x 2)) := by
  have HR := Lib.hid (wroom_ok h 2 (by omega) (by omega))
  have H := Lib.hid h
  have HS := Lib.hid (size16_ok w)
  have HBASE := Lib.hid hbase
  obtain ⟨i0, hi, hz0, hz1, hz2⟩ := info5z
  clear h hbase
  by_cases hr : s.roomB 2 = true
  · have HE := Lib.hid (show s.raw (leB x 2) = { s with xs := s.xs ++ leB x 2 } by unfold WS.raw; rw [leB_len, if_pos (show s.roomB ((2 : Nat) : Int) = true from hr)])
    have hr2 : s.room 2 = s ∧ (s.xs.length : Int) + 2 ≤ s.lim := by
      unfold WS.roomB at hr
      simp at hr
      exact ⟨by unfold WS.room; rw [if_neg (by omega)], by omega⟩
    have HLIM := Lib.hid hr2.2
    rw [hr, hr2.1] at HR
    clear hr hr2
    unfold ptrV at *
    go_enter Tryd.func87, Tryd.ntmps87
    go_wp2_with fail
    refine HS.out.mono ?_
    rintro e w1 ⟨rfl, rfl⟩
    go_wp2_with fail
    refine HR.out.mono ?_
    rintro e w1 ⟨rfl, hg⟩
    have HG := Lib.hid hg
    clear hg HR HS
    go_wp2_with fail
    go_loopw [12] (fun s12 wr => ∃ k : Nat, s12 = .int .i64 k ∧ k ≤ 2 ∧ WGoes w wr base b m v { s with xs := s.xs ++ leB x k }) (fun i _ => 2 - (intOf i).toNat)
    case atStart => exact ⟨0, rfl, by omega, by rw [leB_zero, List.append_nil]; exact HG.out⟩
    case round =>
      obtain ⟨k, rfl, hk, hg⟩ := hrel
      have HGk := Lib.hid hg
      clear hg HG
      by_cases hlt : k < 2
      · have hlt' : (k : Int) < 2 := by omega
        obtain ⟨v1, hw1, hc1, hf1⟩ := HGk.out
        obtain ⟨ys, hys⟩ : ∃ ys, ys = s.xs ++ leB x k := ⟨_, rfl⟩
        have hlen : ys.length = s.xs.length + k := by rw [hys, List.length_append, leB_len]
        rw [← hys] at hw1
        have HYS := Lib.hid hys
        have HLEN := Lib.hid hlen
        clear hys hlen
        obtain ⟨hb, _, f1, _, _, z1, _⟩ := hw1.facts
        obtain ⟨o1, c1, hv, _⟩ := row_form hw1.row
        dsimp only at hv f1
        subst hv
        have HW := Lib.hid hw1
        have HRow := Lib.hid (fun (wy : World) (hy : Chg (fun _ => False) wr wy) => row_frame hw1.row hy fun _ _ => id)
        have HL12 := Lib.hid (And.intro hw1.fine.l1 HLIM.out)
        have HBS := Lib.hid (Nat.le_trans HBASE.out hc1.size)
        have HNB := Lib.hid (show some b ≠ (Value.slice o1 ys.length c1).ownBlock from hw1.ne.2.1)
        have kb : 8 * (k : Int) < 64 := by omega
        have wx : IntKind.u64.wrap x = x := by rw [IntKind.wrap_u64]; omega
        have wk : IntKind.i64.wrap (8 * (k : Int)) = 8 * (k : Int) := by rw [IntKind.wrap_i64]; omega
        have wk0 : 0 ≤ 8 * (k : Int) := by omega
        have ke : (8 * (k : Int)).toNat = 8 * k := by omega
        have wv : IntKind.u8.wrap (x / 2 ^ (8 * k)) = x / 256 ^ k % 256 := by rw [IntKind.wrap_u8, pow8]
        have hxb : 0 ≤ x / 256 ^ k % 256 ∧ x / 256 ^ k % 256 ≤ 255 := by omega
        have HXB := Lib.hid hxb
        have HSUC := Lib.hid (leB_succ x k)
        generalize x / 256 ^ k % 256 = y at *
        have HC1 := Lib.hid hc1
        have HF1 := Lib.hid hf1
        clear hw1 hc1 hf1 hxb
        go_wp2_with fail
        go_region_law (first | (refine step_app rfl _ _ _ (by rfl) base 5 i0 (.int .u8 0) 1 1 Tryd.underlying24 hi hz0 hz1 hz2 rfl (by decide) (.slice o1 ys.length c1) ys.length (u8s ys) (by rfl) (HRow.out _ (by repeat (first | exact Chg.refl _ _ | apply Chg.drew | (refine Chg.setCell ?_ (by simp) _) | (refine Chg.alloc ?_ _) | (refine Chg.setBlock ?_ (by simp) _)))) _ 1 1 [.int .u8 y] (by rfl) (SrcIs.some (by rfl) (by simp [Value.oneCell']) (by first | exact World.news_of_block (heap_alloc_new _ _) | exact World.news_of_block (w := World.drew _) (heap_alloc_new _ _))) (fun h => by cases h) (by have := HL12.out; have := HLEN.out; unfold maxLen; omega) (by have := HL12.out; have := HLEN.out; omega) (by have := HBS.out; simp; omega) ?_; intro v2 w3 hown hgrow hlie; obtain ⟨ov, cv, rfl, hv1, hv2, _⟩ := row_form hown; have f1d := (hgrow.cell_far ⟨b, 1, none⟩ (Nat.lt_of_lt_of_le hb (by simp)) HNB.out); have z1d := (hgrow.frozen_far ⟨b, 1, none⟩ (Nat.lt_of_lt_of_le hb (by simp)) HNB.out); have HO := Lib.hid hown; have HGR := Lib.hid hgrow; have HLie := Lib.hid hlie; clear hown hgrow hlie))
        all_goals
          have E := Lib.hid (WGoes.after HC1.out HF1.out (WrIs.push HW.out (by repeat (first | exact Chg.refl _ _ | apply Chg.drew | (refine Chg.setCell ?_ (by simp) _) | (refine Chg.alloc ?_ _) | (refine Chg.setBlock ?_ (by simp) _))) (by simpa using HO.out) HGR.out HLie.out HXB.out (by have := HLIM.out; have := HLEN.out; dsimp only; omega)))
          have e2 : ys ++ [y] = s.xs ++ leB x (k + 1) := by rw [HSUC.out, ← List.append_assoc, ← HYS.out]
          dsimp only at E
          rw [e2] at E
          clear e2
          go_wp2
          go_roundw
          case rel => exact ⟨k + 1, by go_num, by omega, E.out⟩
          case measure => simp [intOf]; omega
      · have hke : k = 2 := by omega
        subst hke
        go_wp2
        go_end0
        exact ⟨rfl, by rw [HE.out]; exact HGk.out⟩
  · have hr' : s.roomB 2 = false := by simpa using hr
    have HE := Lib.hid (show s.raw (leB x 2) = s.room 2 by unfold WS.raw; rw [leB_len, if_neg (show ¬ s.roomB ((2 : Nat) : Int) = true from hr)]; rfl)
    rw [hr'] at HR
    clear hr hr'
    unfold ptrV at *
    go_enter Tryd.func87, Tryd.ntmps87
    go_wp2_with fail
    refine HS.out.mono ?_
    rintro e w1 ⟨rfl, rfl⟩
    go_wp2_with fail
    refine HR.out.mono ?_
    rintro e w1 ⟨rfl, hg⟩
    have HG := Lib.hid hg
    clear hg HR HS
    go_wp2
    refine bodyPost_ret (results_none rfl _ _ _) rfl ?_
    exact ⟨rfl, by rw [HE.out]; exact HG.out⟩

set_option maxHeartbeats 1000000 in
set_option maxRecDepth 100000 in
theorem size32_ok (w : World) : Calls Tryd.prog 92 #[] w fun e w' => e = .returned (.int .i64 4) ∧ w = w' := by
  have h0 : allOnes 4 0 = 4294967295 := by decide
  have HZ := Lib.hid h0
  go_enter Tryd.func92, Tryd.ntmps92
  go_wp2
  go_loop [1, 2] (fun s1 s2 => ∃ k : Nat, k ≤ 4 ∧ s1 = .int .i64 k ∧ s2 = .int .u32 (allOnes 4 k)) (fun i _ => 4 - (intOf i).toNat)
  case atStart => exact ⟨0, by omega, rfl, by rw [HZ.out]; rfl⟩
  case round =>
    obtain ⟨k, hk, rfl, rfl⟩ := hrel
    by_cases hlt : k < 4
    · obtain ⟨a1, a2, a3, a4⟩ := allOnes_step hlt
      have a5 := allOnes_le 4 k
      rw [HZ.out] at a5
      generalize hA : allOnes 4 k = A at *
      generalize hA' : allOnes 4 (k + 1) = A' at *
      have HA' := Lib.hid hA'
      have hne : (A != 0) = true := by simp; omega
      clear hA hA' h0
      go_wp2
      go_round
      case rel => exact ⟨k + 1, by omega, by go_num, by rw [HA'.out]⟩
      case measure => simp [intOf]; omega
    · have hke : k = 4 := by omega
      subst hke
      rw [allOnes_end]
      clear h0
      go_wp2
      go_ret
      exact ⟨rfl, rfl⟩

set_option maxHeartbeats 2000000 in
set_option maxRecDepth 100000 in
theorem put32_ok {w : World} {base b m : Nat} {v : Value} {s : WS} (h : WrIs w base b m v s) (hbase : base ≤ w.heap.size) (x : Int) (hx0 : 0 ≤ x) (hx1 : x ≤ 4294967295) :
    Calls Tryd.prog 84 #[ptrV b, .int .u32 x] w fun r w' => r = .returned (.tuple #[]) ∧ WGoes w w' base b m v (s.raw (leB x 4)) := by
  have HR := Lib.hid (wroom_ok h 4 (by omega) (by omega))
  have H := Lib.hid h
  have HS := Lib.hid (size32_ok w)
  have HBASE := Lib.hid hbase
  obtain ⟨i0, hi, hz0, hz1, hz2⟩ := info5z
  clear h hbase
  by_cases hr : s.roomB 4 = true
  · have HE := Lib.hid (show s.raw (leB x 4) = { s with xs := s.xs ++ leB x 4 } by unfold WS.raw; rw [leB_len, if_pos (show s.roomB ((4 : Nat) : Int) = true from hr)])
    have hr2 : s.room 4 = s ∧ (s.xs.length : Int) + 4 ≤ s.lim := by
      unfold WS.roomB at hr
      simp at hr
      exact ⟨by unfold WS.room; rw [if_neg (by omega)], by omega⟩
    have HLIM := Lib.hid hr2.2
    rw [hr, hr2.1] at HR
    clear hr hr2
    unfold ptrV at *
    go_enter Tryd.func84, Tryd.ntmps84
    go_wp2_with fail
    refine HS.out.mono ?_
    rintro e w1 ⟨rfl, rfl⟩
    go_wp2_with fail
    refine HR.out.mono ?_
    rintro e w1 ⟨rfl, hg⟩
    have HG := Lib.hid hg
    clear hg HR HS
    go_wp2_with fail
    go_loopw [12] (fun s12 wr => ∃ k : Nat, s12 = .int .i64 k ∧ k ≤ 4 ∧ WGoes w wr base b m v { s with xs := s.xs ++ leB x k }) (fun i _ => 4 - (intOf i).toNat)
    case atStart => exact ⟨0, rfl, by omega, by rw [leB_zero, List.append_nil]; exact HG.out⟩
    case round =>
      obtain ⟨k, rfl, hk, hg⟩ := hrel
      have HGk := Lib.hid hg
      clear hg HG
      by_cases hlt : k < 4
      · have hlt' : (k : Int) < 4 := by omega
        obtain ⟨v1, hw1, hc1, hf1⟩ := HGk.out
        obtain ⟨ys, hys⟩ : ∃ ys, ys = s.xs ++ leB x k := ⟨_, rfl⟩
        have hlen : ys.length = s.xs.length + k := by rw [hys, List.length_append, leB_len]
        rw [← hys] at hw1
        have HYS := Lib.hid hys
        have HLEN := Lib.hid hlen
        clear hys hlen
        obtain ⟨hb, _, f1, _, _, z1, _⟩ := hw1.facts
        obtain ⟨o1, c1, hv, _⟩ := row_form hw1.row
        dsimp only at hv f1
        subst hv
        have HW := Lib.hid hw1
        have HRow := Lib.hid (fun (wy : World) (hy : Chg (fun _ => False) wr wy) => row_frame hw1.row hy fun _ _ => id)
        have HL12 := Lib.hid (And.intro hw1.fine.l1 HLIM.out)
        have HBS := Lib.hid (Nat.le_trans HBASE.out hc1.size)
        have HNB := Lib.hid (show some b ≠ (Value.slice o1 ys.length c1).ownBlock from hw1.ne.2.1)
        have kb : 8 * (k : Int) < 64 := by omega
        have wx : IntKind.u64.wrap x = x := by rw [IntKind.wrap_u64]; omega
        have wk : IntKind.i64.wrap (8 * (k : Int)) = 8 * (k : Int) := by rw [IntKind.wrap_i64]; omega
        have wk0 : 0 ≤ 8 * (k : Int) := by omega
        have ke : (8 * (k : Int)).toNat = 8 * k := by omega
        have wv : IntKind.u8.wrap (x / 2 ^ (8 * k)) = x / 256 ^ k % 256 := by rw [IntKind.wrap_u8, pow8]
        have hxb : 0 ≤ x / 256 ^ k % 256 ∧ x / 256 ^ k % 256 ≤ 255 := by omega
        have HXB := Lib.hid hxb
        have HSUC := Lib.hid (leB_succ x k)
        generalize x / 256 ^ k % 256 = y at *
        have HC1 := Lib.hid hc1
        have HF1 := Lib.hid hf1
        clear hw1 hc1 hf1 hxb
        go_wp2_with fail
        go_region_law (first | (refine step_app rfl _ _ _ (by rfl) base 5 i0 (.int .u8 0) 1 1 Tryd.underlying24 hi hz0 hz1 hz2 rfl (by decide) (.slice o1 ys.length c1) ys.length (u8s ys) (by rfl) (HRow.out _ (by repeat (first | exact Chg.refl _ _ | apply Chg.drew | (refine Chg.setCell ?_ (by simp) _) | (refine Chg.alloc ?_ _) | (refine Chg.setBlock ?_ (by simp) _)))) _ 1 1 [.int .u8 y] (by rfl) (SrcIs.some (by rfl) (by simp [Value.oneCell']) (by first | exact World.news_of_block (heap_alloc_new _ _) | exact World.news_of_block (w := World.drew _) (heap_alloc_new _ _))) (fun h => by cases h) (by have := HL12.out; have := HLEN.out; unfold maxLen; omega) (by have := HL12.out; have := HLEN.out; omega) (by have := HBS.out; simp; omega) ?_; intro v2 w3 hown hgrow hlie; obtain ⟨ov, cv, rfl, hv1, hv2, _⟩ := row_form hown; have f1d := (hgrow.cell_far ⟨b, 1, none⟩ (Nat.lt_of_lt_of_le hb (by simp)) HNB.out); have z1d := (hgrow.frozen_far ⟨b, 1, none⟩ (Nat.lt_of_lt_of_le hb (by simp)) HNB.out); have HO := Lib.hid hown; have HGR := Lib.hid hgrow; have HLie := Lib.hid hlie; clear hown hgrow hlie))
        all_goals
          have E := Lib.hid (WGoes.after HC1.out HF1.out (WrIs.push HW.out (by repeat (first | exact Chg.refl _ _ | apply Chg.drew | (refine Chg.setCell ?_ (by simp) _) | (refine Chg.alloc ?_ _) | (refine Chg.setBlock ?_ (by simp) _))) (by simpa using HO.out) HGR.out HLie.out HXB.out (by have := HLIM.out; have := HLEN.out; dsimp only; omega)))
          have e2 : ys ++ [y] = s.xs ++ leB x (k + 1) := by rw [HSUC.out, ← List.append_assoc, ← HYS.out]
          dsimp only at E
          rw [e2] at E
          clear e2
          go_wp2
          go_roundw
          case rel => exact ⟨k + 1, by go_num, by omega, E.out⟩
          case measure => simp [intOf]; omega
      · have hke : k = 4 := by omega
        subst hke
        go_wp2
        go_end0
        exact ⟨rfl, by rw [HE.out]; exact HGk.out⟩
  · have hr' : s.roomB 4 = false := by simpa using hr
    have HE := Lib.hid (show s.raw (leB x 4) = s.room 4 by unfold WS.raw; rw [leB_len, if_neg (show ¬ s.roomB ((4 : Nat) : Int) = true from hr)]; rfl)
    rw [hr'] at HR
    clear hr hr'
    unfold ptrV at *
    go_enter Tryd.func84, Tryd.ntmps84
    go_wp2_with fail
    refine HS.out.mono ?_
    rintro e w1 ⟨rfl, rfl⟩
    go_wp2_with fail
    refine HR.out.mono ?_
    rintro e w1 ⟨rfl, hg⟩
    have HG := Lib.hid hg
    clear hg HR HS
    go_wp2
    refine bodyPost_ret (results_none rfl _ _ _) rfl ?_
    exact ⟨rfl, by rw [HE.out]; exact HG.out⟩

set_option maxHeartbeats 1000000 in
set_option maxRecDepth 100000 in
theorem size64_ok (w : World) : Calls Tryd.prog 91 #[] w fun e w' => e = .returned (.int .i64 8) ∧ w = w' := by
  have h0 : allOnes 8 0 = 18446744073709551615 := by decide
  have HZ := Lib.hid h0
  go_enter Tryd.func91, Tryd.ntmps91
  go_wp2
  go_loop [1, 2] (fun s1 s2 => ∃ k : Nat, k ≤ 8 ∧ s1 = .int .i64 k ∧ s2 = .int .u64 (allOnes 8 k)) (fun i _ => 8 - (intOf i).toNat)
  case atStart => exact ⟨0, by omega, rfl, by rw [HZ.out]; rfl⟩
  case round =>
    obtain ⟨k, hk, rfl, rfl⟩ := hrel
    by_cases hlt : k < 8
    · obtain ⟨a1, a2, a3, a4⟩ := allOnes_step hlt
      have a5 := allOnes_le 8 k
      rw [HZ.out] at a5
      generalize hA : allOnes 8 k = A at *
      generalize hA' : allOnes 8 (k + 1) = A' at *
      have HA' := Lib.hid hA'
      have hne : (A != 0) = true := by simp; omega
      clear hA hA' h0
      go_wp2
      go_round
      case rel => exact ⟨k + 1, by omega, by go_num, by rw [HA'.out]⟩
      case measure => simp [intOf]; omega
    · have hke : k = 8 := by omega
      subst hke
      rw [allOnes_end]
      clear h0
      go_wp2
      go_ret
      exact ⟨rfl, rfl⟩

set_option maxHeartbeats 2000000 in
set_option maxRecDepth 100000 in
theorem put64_ok {w : World} {base b m : Nat} {v : Value} {s : WS} (h : WrIs w base b m v s) (hbase : base ≤ w.heap.size) (x : Int) (hx0 : 0 ≤ x) (hx1 : x ≤ 18446744073709551615) :
    Calls Tryd.prog 88 #[ptrV b, .int .u64 x] w fun r w' => r = .returned (.tuple #[]) ∧ WGoes w w' base b m v (s.raw (leB x 8)) := by
  have HR := Lib.hid (wroom_ok h 8 (by omega) (by omega))
  have H := Lib.hid h
  have HS := Lib.hid (size64_ok w)
  have HBASE := Lib.hid hbase
  obtain ⟨i0, hi, hz0, hz1, hz2⟩ := info5z
  clear h hbase
  by_cases hr : s.roomB 8 = true
  · have HE := Lib.hid (show s.raw (leB x 8) = { s with xs := s.xs ++ leB x 8 } by unfold WS.raw; rw [leB_len, if_pos (show s.roomB ((8 : Nat) : Int) = true from hr)])
    have hr2 : s.room 8 = s ∧ (s.xs.length : Int) + 8 ≤ s.lim := by
      unfold WS.roomB at hr
      simp at hr
      exact ⟨by unfold WS.room; rw [if_neg (by omega)], by omega⟩
    have HLIM := Lib.hid hr2.2
    rw [hr, hr2.1] at HR
    clear hr hr2
    unfold ptrV at *
    go_enter Tryd.func88, Tryd.ntmps88
    go_wp2_with fail
    refine HS.out.mono ?_
    rintro e w1 ⟨rfl, rfl⟩
    go_wp2_with fail
    refine HR.out.mono ?_
    rintro e w1 ⟨rfl, hg⟩
    have HG := Lib.hid hg
    clear hg HR HS
    go_wp2_with fail
    go_loopw [12] (fun s12 wr => ∃ k : Nat, s12 = .int .i64 k ∧ k ≤ 8 ∧ WGoes w wr base b m v { s with xs := s.xs ++ leB x k }) (fun i _ => 8 - (intOf i).toNat)
    case atStart => exact ⟨0, rfl, by omega, by rw [leB_zero, List.append_nil]; exact HG.out⟩
    case round =>
      obtain ⟨k, rfl, hk, hg⟩ := hrel
      have HGk := Lib.hid hg
      clear hg HG
      by_cases hlt : k < 8
      · have hlt' : (k : Int) < 8 := by omega
        obtain ⟨v1, hw1, hc1, hf1⟩ := HGk.out
        obtain ⟨ys, hys⟩ : ∃ ys, ys = s.xs ++ leB x k := ⟨_, rfl⟩
        have hlen : ys.length = s.xs.length + k := by rw [hys, List.length_append, leB_len]
        rw [← hys] at hw1
        have HYS := Lib.hid hys
        have HLEN := Lib.hid hlen
        clear hys hlen
        obtain ⟨hb, _, f1, _, _, z1, _⟩ := hw1.facts
        obtain ⟨o1, c1, hv, _⟩ := row_form hw1.row
        dsimp only at hv f1
        subst hv
        have HW := Lib.hid hw1
        have HRow := Lib.hid (fun (wy : World) (hy : Chg (fun _ => False) wr wy) => row_frame hw1.row hy fun _ _ => id)
        have HL12 := Lib.hid (And.intro hw1.fine.l1 HLIM.out)
        have HBS := Lib.hid (Nat.le_trans HBASE.out hc1.size)
        have HNB := Lib.hid (show some b ≠ (Value.slice o1 ys.length c1).ownBlock from hw1.ne.2.1)
        have kb : 8 * (k : Int) < 64 := by omega
        have wx : IntKind.u64.wrap x = x := by rw [IntKind.wrap_u64]; omega
        have wk : IntKind.i64.wrap (8 * (k : Int)) = 8 * (k : Int) := by rw [IntKind.wrap_i64]; omega
        have wk0 : 0 ≤ 8 * (k : Int) := by omega
        have ke : (8 * (k : Int)).toNat = 8 * k := by omega
        have wv : IntKind.u8.wrap (x / 2 ^ (8 * k)) = x / 256 ^ k % 256 := by rw [IntKind.wrap_u8, pow8]
        have hxb : 0 ≤ x / 256 ^ k % 256 ∧ x / 256 ^ k % 256 ≤ 255 := by omega
        have HXB := Lib.hid hxb
        have HSUC := Lib.hid (leB_succ x k)
        generalize x / 256 ^ k % 256 = y at *
        have HC1 := Lib.hid hc1
        have HF1 := Lib.hid hf1
        clear hw1 hc1 hf1 hxb
        go_wp2_with fail
        go_region_law (first | (refine step_app rfl _ _ _ (by rfl) base 5 i0 (.int .u8 0) 1 1 Tryd.underlying24 hi hz0 hz1 hz2 rfl (by decide) (.slice o1 ys.length c1) ys.length (u8s ys) (by rfl) (HRow.out _ (by repeat (first | exact Chg.refl _ _ | apply Chg.drew | (refine Chg.setCell ?_ (by simp) _) | (refine Chg.alloc ?_ _) | (refine Chg.setBlock ?_ (by simp) _)))) _ 1 1 [.int .u8 y] (by rfl) (SrcIs.some (by rfl) (by simp [Value.oneCell']) (by first | exact World.news_of_block (heap_alloc_new _ _) | exact World.news_of_block (w := World.drew _) (heap_alloc_new _ _))) (fun h => by cases h) (by have := HL12.out; have := HLEN.out; unfold maxLen; omega) (by have := HL12.out; have := HLEN.out; omega) (by have := HBS.out; simp; omega) ?_; intro v2 w3 hown hgrow hlie; obtain ⟨ov, cv, rfl, hv1, hv2, _⟩ := row_form hown; have f1d := (hgrow.cell_far ⟨b, 1, none⟩ (Nat.lt_of_lt_of_le hb (by simp)) HNB.out); have z1d := (hgrow.frozen_far ⟨b, 1, none⟩ (Nat.lt_of_lt_of_le hb (by simp)) HNB.out); have HO := Lib.hid hown; have HGR := Lib.hid hgrow; have HLie := Lib.hid hlie; clear hown hgrow hlie))
        all_goals
          have E := Lib.hid (WGoes.after HC1.out HF1.out (WrIs.push HW.out (by repeat (first | exact Chg.refl _ _ | apply Chg.drew | (refine Chg.setCell ?_ (by simp) _) | (refine Chg.alloc ?_ _) | (refine Chg.setBlock ?_ (by simp) _))) (by simpa using HO.out) HGR.out HLie.out HXB.out (by have := HLIM.out; have := HLEN.out; dsimp only; omega)))
          have e2 : ys ++ [y] = s.xs ++ leB x (k + 1) := by rw [HSUC.out, ← List.append_assoc, ← HYS.out]
          dsimp only at E
          rw [e2] at E
          clear e2
          go_wp2
          go_roundw
          case rel => exact ⟨k + 1, by go_num, by omega, E.out⟩
          case measure => simp [intOf]; omega
      · have hke : k = 8 := by omega
        subst hke
        go_wp2
        go_end0
        exact ⟨rfl, by rw [HE.out]; exact HGk.out⟩
  · have hr' : s.roomB 8 = false := by simpa using hr
    have HE := Lib.hid (show s.raw (leB x 8) = s.room 8 by unfold WS.raw; rw [leB_len, if_neg (show ¬ s.roomB ((8 : Nat) : Int) = true from hr)]; rfl)
    rw [hr'] at HR
    clear hr hr'
    unfold ptrV at *
    go_enter Tryd.func88, Tryd.ntmps88
    go_wp2_with fail
    refine HS.out.mono ?_
    rintro e w1 ⟨rfl, rfl⟩
    go_wp2_with fail
    refine HR.out.mono ?_
    rintro e w1 ⟨rfl, hg⟩
    have HG := Lib.hid hg
    clear hg HR HS
    go_wp2
    refine bodyPost_ret (results_none rfl _ _ _) rfl ?_
    exact ⟨rfl, by rw [HE.out]; exact HG.out⟩
end Go.Proofs.YtfihpiommicdbaaDoor
