/- Ports: contracts of New, of the reference's May and New. No condition. (Printed by genB.py.) -/
import Derived.Test.YtpilfelcikelhaaQueA
namespace Go.Proofs.Ytpilfelcikelhaa
open Go.RowKit Go.Cl
set_option linter.unusedVariables false
set_option linter.unusedSimpArgs false
attribute [local go_sem] lt_add_one' blk_alloc_past blk_alloc_at blk_drew blk_setCell_ne

def PS.zero : PS := ⟨0, 0, 0, [], []⟩

def sizedB (n : Int) : Bool := decide (4 ≤ n) && decide (n ≤ 256) && decide (n % 4 = 0)
def q0 (q : QT) : Bool := isCellB q.writer
def q1 (q : QT) : Bool := isCellB q.reader

/-- May it be declared so? As a Bool. -/
def QT.mayB (q : QT) : Bool := isCellB q.writer && isCellB q.reader && !(q.writer == q.reader) && sizedB q.size && decide (1 ≤ q.depth) && decide (q.depth ≤ 32) && decide (1 ≤ q.quota) && decide (q.quota ≤ 16)

theorem QT.mayB_iff (q : QT) : q.mayB = true ↔ q.May := by
  unfold QT.mayB isCellB sizedB
  simp only [Bool.and_eq_true, decide_eq_true_eq, Bool.not_eq_true', beq_eq_false_iff_ne]
  constructor
  · rintro ⟨⟨⟨⟨⟨⟨⟨⟨a, b⟩, c, d⟩, e⟩, ⟨f, g⟩, h⟩, i⟩, j⟩, k⟩, l⟩
    exact ⟨a, b, c, d, e, f, g, h, i, j, k, l⟩
  · rintro ⟨a, b, c, d, e, f, g, h, i, j, k, l⟩
    exact ⟨⟨⟨⟨⟨⟨⟨⟨a, b⟩, c, d⟩, e⟩, ⟨f, g⟩, h⟩, i⟩, j⟩, k⟩, l⟩

/-- What New hands back. -/
def NewPost (w : World) (q : QT) (e : Ending) (w' : World) : Prop :=
  if q.mayB = true then ∃ b, e = .returned (.tuple #[ptrV b, .int .i64 0]) ∧ PortIs w' b (.slice none 0 0) (.slice none 0 0) q PS.zero ∧ w.heap.size ≤ b ∧ Chg (fun _ => False) w w'
  else e = .returned (.tuple #[.pointer none, .int .i64 170]) ∧ Chg (fun _ => False) w w'

theorem row_nil (w : World) : RowIs w (.slice none 0 0) [] := ⟨[], ⟨by simp, .inl ⟨rfl, rfl⟩⟩, by simp, fun i m h => by simp at h⟩

theorem fine_zero {q : QT} (h : q.May) : Fine q PS.zero := by
  have := h.d1; have := h.u1
  exact ⟨h, by simp [PS.zero], by simp [PS.zero], by simp [PS.zero], by simp [PS.zero], by simp [PS.zero]; omega, fun _ => by simp [PS.zero]; omega, fun _ => by simp [PS.zero]; omega, by simp [PS.zero], by simp [PS.zero]⟩

set_option maxHeartbeats 1000000 in
set_option maxRecDepth 100000 in
theorem new_any (q : QT) (w : World) : Calls Try.prog 8 #[q.v] w (NewPost w q) := by
  have C1 := Lib.hid (isCell_ok q.writer)
  have C2 := Lib.hid (isCell_ok q.reader)
  have hc : Chg (fun _ => False) w (w.alloc (.cells #[.int .i64 q.writer, .int .i64 q.reader, .int .i64 q.size, .int .i64 q.depth, .int .i64 q.quota, .bool q.flow] 23 (0, 0))) := (Chg.refl _ _).alloc _
  have HC := Lib.hid hc
  clear hc
  unfold QT.v
  go_enter Try.func8, Try.ntmps8
  go_upto_region 1 with (fail)
  obtain ⟨w1, hw1⟩ : ∃ w1, w1 = w.alloc (.cells #[.int .i64 q.writer, .int .i64 q.reader, .int .i64 q.size, .int .i64 q.depth, .int .i64 q.quota, .bool q.flow] 23 (0, 0)) := ⟨_, rfl⟩
  have hb : blk w1 w.heap.size = some (.cells #[.int .i64 q.writer, .int .i64 q.reader, .int .i64 q.size, .int .i64 q.depth, .int .i64 q.quota, .bool q.flow] 23 (0, 0)) := by rw [hw1]; exact blk_alloc_at _ _ _ rfl
  rw [← hw1] at HC ⊢
  clear hw1
  obtain ⟨g, hg⟩ : ∃ g, g = w.heap.size := ⟨_, rfl⟩
  have HG := Lib.hid hg
  rw [← hg] at hb ⊢
  clear hg
  have g0 : w1.cell? ⟨g, 0, none⟩ = some (.int .i64 q.writer) := cell_of_blk hb 0
  have g1 : w1.cell? ⟨g, 1, none⟩ = some (.int .i64 q.reader) := cell_of_blk hb 1
  have g2 : w1.cell? ⟨g, 2, none⟩ = some (.int .i64 q.size) := cell_of_blk hb 2
  have g3 : w1.cell? ⟨g, 3, none⟩ = some (.int .i64 q.depth) := cell_of_blk hb 3
  have g4 : w1.cell? ⟨g, 4, none⟩ = some (.int .i64 q.quota) := cell_of_blk hb 4
  have g5 : w1.cell? ⟨g, 5, none⟩ = some (.bool q.flow) := cell_of_blk hb 5
  have HB := Lib.hid hb
  clear hb
  go_cut [4] from 5 to 18 (fun s4 wr => s4 = .bool (sizedB q.size) ∧ w1 = wr)
  case first =>
    by_cases s1 : 4 ≤ q.size
    · by_cases s2 : q.size ≤ 256
      · have e4 : q.size.tmod 4 = q.size % 4 := Int.tmod_eq_emod_of_nonneg (by omega)
        cases s4 : q.size.tmod 4 == 0 with
        | true =>
          go_wp2
          go_meet
          case rel => exact ⟨by rw [e4] at s4; simp at s4; simp [sizedB, s1, s2, s4]; try omega, rfl⟩
        | false =>
          go_wp2
          go_meet
          case rel => exact ⟨by rw [e4] at s4; simp at s4; simp [sizedB, s1, s2, s4]; try omega, rfl⟩
      · go_wp2
        go_meet
        case rel => exact ⟨by simp [sizedB, s2]; try omega, rfl⟩
    · go_wp2
      go_meet
      case rel => exact ⟨by simp [sizedB, s1]; try omega, rfl⟩
  case rest =>
    obtain ⟨rfl, rfl⟩ := hcut
    have MB := Lib.hid (QT.mayB_iff q)
    cases c1 : isCellB q.writer with
    | false =>
      rw [c1] at C1
      go_wp2_with fail
      refine (C1.out _).mono ?_
      rintro e wa ⟨rfl, rfl⟩
      go_wp2
      go_ret2
      unfold NewPost
      rw [if_neg (by simp [QT.mayB, c1]; try omega)]
      exact ⟨rfl, HC.out⟩
    | true =>
      cases c2 : isCellB q.reader with
      | false =>
        rw [c1] at C1
        rw [c2] at C2
        go_wp2_with fail
        refine (C1.out _).mono ?_
        rintro e wa ⟨rfl, rfl⟩
        go_wp2_with fail
        refine (C2.out _).mono ?_
        rintro e wa ⟨rfl, rfl⟩
        go_wp2
        go_ret2
        unfold NewPost
        rw [if_neg (by simp [QT.mayB, c1, c2]; try omega)]
        exact ⟨rfl, HC.out⟩
      | true =>
        cases ne : q.writer == q.reader with
        | true =>
          rw [c1] at C1
          rw [c2] at C2
          go_wp2_with fail
          refine (C1.out _).mono ?_
          rintro e wa ⟨rfl, rfl⟩
          go_wp2_with fail
          refine (C2.out _).mono ?_
          rintro e wa ⟨rfl, rfl⟩
          go_wp2
          go_ret2
          unfold NewPost
          rw [if_neg (by simp [QT.mayB, c1, c2, ne]; try omega)]
          exact ⟨rfl, HC.out⟩
        | false =>
          cases sz : sizedB q.size with
          | false =>
            rw [c1] at C1
            rw [c2] at C2
            go_wp2_with fail
            refine (C1.out _).mono ?_
            rintro e wa ⟨rfl, rfl⟩
            go_wp2_with fail
            refine (C2.out _).mono ?_
            rintro e wa ⟨rfl, rfl⟩
            go_wp2
            go_ret2
            unfold NewPost
            rw [if_neg (by simp [QT.mayB, c1, c2, ne, sz]; try omega)]
            exact ⟨rfl, HC.out⟩
          | true =>
            by_cases d1 : 1 ≤ q.depth
            · by_cases d2 : q.depth ≤ 32
              · by_cases u1 : 1 ≤ q.quota
                · by_cases u2 : q.quota ≤ 16
                  · rw [c1] at C1
                    rw [c2] at C2
                    go_wp2_with fail
                    refine (C1.out _).mono ?_
                    rintro e wa ⟨rfl, rfl⟩
                    go_wp2_with fail
                    refine (C2.out _).mono ?_
                    rintro e wa ⟨rfl, rfl⟩
                    go_wp2
                    go_ret2
                    unfold NewPost
                    have hm : q.mayB = true := by simp [QT.mayB, c1, c2, ne, sz, d1, d2, u1, u2]; try omega
                    rw [if_pos hm]
                    refine ⟨_, rfl, ⟨blk_alloc_at _ _ _ rfl, row_nil _, row_nil _, .inl rfl, fine_zero ((MB.out).1 hm)⟩, ?_, HC.out.alloc _⟩
                    exact HC.out.size
                  · rw [c1] at C1
                    rw [c2] at C2
                    go_wp2_with fail
                    refine (C1.out _).mono ?_
                    rintro e wa ⟨rfl, rfl⟩
                    go_wp2_with fail
                    refine (C2.out _).mono ?_
                    rintro e wa ⟨rfl, rfl⟩
                    go_wp2
                    go_ret2
                    unfold NewPost
                    rw [if_neg (by simp [QT.mayB, c1, c2, ne, sz, d1, d2, u1, u2]; try omega)]
                    exact ⟨rfl, HC.out⟩
                · rw [c1] at C1
                  rw [c2] at C2
                  go_wp2_with fail
                  refine (C1.out _).mono ?_
                  rintro e wa ⟨rfl, rfl⟩
                  go_wp2_with fail
                  refine (C2.out _).mono ?_
                  rintro e wa ⟨rfl, rfl⟩
                  go_wp2
                  go_ret2
                  unfold NewPost
                  rw [if_neg (by simp [QT.mayB, c1, c2, ne, sz, d1, d2, u1]; try omega)]
                  exact ⟨rfl, HC.out⟩
              · rw [c1] at C1
                rw [c2] at C2
                go_wp2_with fail
                refine (C1.out _).mono ?_
                rintro e wa ⟨rfl, rfl⟩
                go_wp2_with fail
                refine (C2.out _).mono ?_
                rintro e wa ⟨rfl, rfl⟩
                go_wp2
                go_ret2
                unfold NewPost
                rw [if_neg (by simp [QT.mayB, c1, c2, ne, sz, d1, d2]; try omega)]
                exact ⟨rfl, HC.out⟩
            · rw [c1] at C1
              rw [c2] at C2
              go_wp2_with fail
              refine (C1.out _).mono ?_
              rintro e wa ⟨rfl, rfl⟩
              go_wp2_with fail
              refine (C2.out _).mono ?_
              rintro e wa ⟨rfl, rfl⟩
              go_wp2
              go_ret2
              unfold NewPost
              rw [if_neg (by simp [QT.mayB, c1, c2, ne, sz, d1]; try omega)]
              exact ⟨rfl, HC.out⟩

set_option maxHeartbeats 1000000 in
set_option maxRecDepth 100000 in
theorem may_any (q : QT) (w : World) : Calls Try.prog 22 #[q.v] w fun e w' => e = .returned (.bool q.mayB) ∧ Chg (fun _ => False) w w' := by
  have C1 := Lib.hid (rcell_ok q.writer)
  have C2 := Lib.hid (rcell_ok q.reader)
  have hc : Chg (fun _ => False) w (w.alloc (.cells #[.int .i64 q.writer, .int .i64 q.reader, .int .i64 q.size, .int .i64 q.depth, .int .i64 q.quota, .bool q.flow] 23 (0, 0))) := (Chg.refl _ _).alloc _
  have HC := Lib.hid hc
  clear hc
  have e4 : 4 ≤ q.size → q.size.tmod 4 = q.size % 4 := fun _ => Int.tmod_eq_emod_of_nonneg (by omega)
  have E4 := Lib.hid e4
  clear e4
  unfold QT.v
  go_enter Try.func22, Try.ntmps22
  go_wp2_with fail
  refine (C1.out _).mono ?_
  rintro e wa ⟨rfl, rfl⟩
  go_wp2_with fail
  refine (C2.out _).mono ?_
  rintro e wa ⟨rfl, rfl⟩
  cases c1 : isCellB q.writer with
  | false =>
    go_wp2
    go_ret
    exact ⟨by simp [QT.mayB, sizedB, c1]; try omega, HC.out⟩
  | true =>
    cases c2 : isCellB q.reader with
    | false =>
      go_wp2
      go_ret
      exact ⟨by simp [QT.mayB, sizedB, c1, c2]; try omega, HC.out⟩
    | true =>
      cases ne : q.writer != q.reader with
      | false =>
        go_wp2
        go_ret
        have ne' := ne
        simp at ne'
        exact ⟨by simp [QT.mayB, sizedB, c1, c2, ne']; try omega, HC.out⟩
      | true =>
        by_cases s1 : 4 ≤ q.size
        · by_cases s2 : q.size ≤ 256
          · cases s4 : q.size % 4 == 0 with
            | false =>
              have e4 := E4.out s1
              have s4t : (q.size.tmod 4 == 0) = false := by rw [e4]; exact s4
              go_wp2
              go_ret
              have s4' := s4
              simp at s4'
              have ne' := ne
              simp at ne'
              exact ⟨by simp [QT.mayB, sizedB, c1, c2, ne', s1, s2, s4']; try omega, HC.out⟩
            | true =>
              by_cases d1 : 1 ≤ q.depth
              · by_cases d2 : q.depth ≤ 32
                · by_cases u1 : 1 ≤ q.quota
                  · by_cases u2 : q.quota ≤ 16
                    · have e4 := E4.out s1
                      have s4t : (q.size.tmod 4 == 0) = true := by rw [e4]; exact s4
                      go_wp2
                      go_ret
                      have s4' := s4
                      simp at s4'
                      have ne' := ne
                      simp at ne'
                      exact ⟨by simp [QT.mayB, sizedB, c1, c2, ne', s1, s2, s4', d1, d2, u1, u2]; try omega, HC.out⟩
                    · have e4 := E4.out s1
                      have s4t : (q.size.tmod 4 == 0) = true := by rw [e4]; exact s4
                      go_wp2
                      go_ret
                      have s4' := s4
                      simp at s4'
                      have ne' := ne
                      simp at ne'
                      exact ⟨by simp [QT.mayB, sizedB, c1, c2, ne', s1, s2, s4', d1, d2, u1, u2]; try omega, HC.out⟩
                  · have e4 := E4.out s1
                    have s4t : (q.size.tmod 4 == 0) = true := by rw [e4]; exact s4
                    go_wp2
                    go_ret
                    have s4' := s4
                    simp at s4'
                    have ne' := ne
                    simp at ne'
                    exact ⟨by simp [QT.mayB, sizedB, c1, c2, ne', s1, s2, s4', d1, d2, u1]; try omega, HC.out⟩
                · have e4 := E4.out s1
                  have s4t : (q.size.tmod 4 == 0) = true := by rw [e4]; exact s4
                  go_wp2
                  go_ret
                  have s4' := s4
                  simp at s4'
                  have ne' := ne
                  simp at ne'
                  exact ⟨by simp [QT.mayB, sizedB, c1, c2, ne', s1, s2, s4', d1, d2]; try omega, HC.out⟩
              · have e4 := E4.out s1
                have s4t : (q.size.tmod 4 == 0) = true := by rw [e4]; exact s4
                go_wp2
                go_ret
                have s4' := s4
                simp at s4'
                have ne' := ne
                simp at ne'
                exact ⟨by simp [QT.mayB, sizedB, c1, c2, ne', s1, s2, s4', d1]; try omega, HC.out⟩
          · go_wp2
            go_ret
            have ne' := ne
            simp at ne'
            exact ⟨by simp [QT.mayB, sizedB, c1, c2, ne', s1, s2]; try omega, HC.out⟩
        · go_wp2
          go_ret
          have ne' := ne
          simp at ne'
          exact ⟨by simp [QT.mayB, sizedB, c1, c2, ne', s1]; try omega, HC.out⟩

/-- What the reference's New hands back. -/
def rNewPost (w : World) (q : QT) (e : Ending) (w' : World) : Prop :=
  if q.mayB = true then ∃ b, e = .returned (.tuple #[ptrV b, .int .i64 0]) ∧ blk w' b = some (.cells #[.int .i64 q.writer, .int .i64 q.reader, .int .i64 q.size, .int .i64 q.depth, .int .i64 q.quota, .bool q.flow, .int .i64 0, .int .i64 0, .int .i64 0, .int .i64 0, .int .i64 0, .slice none 0 0, .slice none 0 0] 74 (0, 0)) ∧ w.heap.size ≤ b ∧ Chg (fun _ => False) w w'
  else e = .returned (.tuple #[.pointer none, .int .i64 170]) ∧ Chg (fun _ => False) w w'

set_option maxHeartbeats 1000000 in
set_option maxRecDepth 100000 in
theorem rnew_any (q : QT) (w : World) : Calls Try.prog 9 #[q.v] w (rNewPost w q) := by
  have M := Lib.hid (may_any q)
  unfold QT.v at *
  go_enter Try.func9, Try.ntmps9
  go_wp2_with fail
  refine (M.out _).mono ?_
  rintro e wa ⟨rfl, hc⟩
  have hb := hc.blk' (b := w.heap.size) (blk_alloc_at _ _ _ rfl) id
  have g0 := cell_of_blk hb 0
  have g1 := cell_of_blk hb 1
  have g2 := cell_of_blk hb 2
  have g3 := cell_of_blk hb 3
  have g4 := cell_of_blk hb 4
  have g5 := cell_of_blk hb 5
  have HC := Lib.hid (((Chg.refl (fun _ => False) w).alloc _).trans hc fun _ _ => id)
  clear hc hb
  cases hm : q.mayB with
  | false =>
    go_wp2
    go_ret2
    unfold rNewPost
    rw [if_neg (by simp [hm])]
    exact ⟨rfl, HC.out⟩
  | true =>
    go_wp2
    go_ret2
    unfold rNewPost
    rw [if_pos hm]
    exact ⟨_, rfl, blk_alloc_at _ _ _ rfl, HC.out.size, HC.out.alloc _⟩
end Go.Proofs.Ytpilfelcikelhaa
