/- Ports: contract of slices.Delete of a row's first message. No condition. -/
import Derived.Test.YtpilfelcikelhaaQueD
import Derived.Test.YtpilfelcikelhaaLibRows
namespace Go.Proofs.Ytpilfelcikelhaa
open Go.RowKit Go.Cl
set_option linter.unusedVariables false
set_option linter.unusedSimpArgs false
attribute [local go_sem] lt_add_one' blk_alloc_past blk_alloc_at blk_drew blk_setCell_ne

theorem run_clear_row {w : World} {g o : Nat} {cur : Array Value} (hb : blk w g = some (.cells cur 76 (0, 0))) (ho : o + 2 ≤ cur.size) (c : Nat) (ty : TypeId) :
    (Builtin.clear_ #[62] ty #[.slice (some ⟨g, o, none⟩) 1 c]).run Try.prog w = .ok (.tuple #[]) (w.setRow g (cur.toList.take o ++ [Value.slice none 0 0, Value.int .u64 0] ++ cur.toList.drop (o + 2)).toArray) := by
  have hst := run_storeCells_at (P := Try.prog) g o 76 [.slice none 0 0, .int .u64 0] 0 cur w hb (by simpa using ho) (by simp [Value.oneCell'])
  have hz : ∀ w, (zeroValue 76).run Try.prog w = .ok (.agg #[.slice none 0 0, .int .u64 0]) w := fun w => by kernel_rfl
  have hzc : (Builtin.zeroCells (Value.agg #[.slice none 0 0, .int .u64 0]).cells 1).toList = [.slice none 0 0, .int .u64 0] := by kernel_rfl
  simp only [Nat.add_zero] at hst
  simp [Builtin.clear_, run_underlying Try.underlying62, hz, hzc, hst]

set_option maxHeartbeats 1000000 in
set_option maxRecDepth 100000 in
theorem delete_ok {w : World} {g n cap : Nat} {c0 c1 : Value} {rest : List Value} (h : w.ownsRow 0 76 2 (.slice (some ⟨g, 0, none⟩) (n + 1) cap) (n + 1) (c0 :: c1 :: rest)) (h1 : ∀ u ∈ rest, u.oneCell' = true) (hn : n + 1 ≤ 32) :
    Calls Try.prog 23 #[.slice (some ⟨g, 0, none⟩) (n + 1) cap, .int .i64 0, .int .i64 1] w fun e w' => e = .returned (.slice (some ⟨g, 0, none⟩) n cap) ∧ w'.ownsRow 0 76 2 (.slice (some ⟨g, 0, none⟩) n cap) n rest ∧ Chg (fun i => i = g) w w' := by
  obtain ⟨i0, hi, hz0, hz1, hz2⟩ := info76z
  obtain ⟨g', cap', cur, hv, _, hnc, hcm, hb, hcs, hx⟩ := row_at h (by omega)
  simp at hv
  obtain ⟨rfl, rfl⟩ := hv
  have hlen := h.1
  have H := Lib.hid h
  have H1 := Lib.hid h1
  have HB := Lib.hid hb
  have HX := Lib.hid hx
  unfold maxLen at hcm
  have q1 : (1 : Int) ≤ (n : Int) + 1 := by omega
  have q2 : (n : Int) + 1 ≤ (cap : Int) := by omega
  have q3 : (1 : Int) ≤ (cap : Int) := by omega
  obtain ⟨ad, had, had2⟩ : ∃ ad : Addr, (if cap = 1 then some (⟨g, 0, none⟩ : Addr) else some ⟨g, 2, none⟩) = some ad ∧ (0 < n → ad = ⟨g, 2, none⟩) := by
    by_cases hc : cap = 1
    · exact ⟨_, if_pos hc, fun hn => by omega⟩
    · exact ⟨_, if_neg hc, fun _ => rfl⟩
  have hn0 : ∀ j u, rest[j]? = some u → 0 < n := fun j u hu => by
    have := (List.getElem?_eq_some_iff.1 hu).1
    simp at hlen
    omega
  have hcells : ∀ j u, rest[j]? = some u → w.drew.cell? (ad.add j) = some u := fun j u hu => by
    rw [had2 (hn0 j u hu), addr_add]
    refine hx (2 + j) u ?_
    rw [Nat.add_comm]
    exact hu
  have hspare : ∀ j, j < rest.length → (w.drew.cell? ⟨g, 0 + 0 * 2 + j, none⟩).isSome = true ∧ w.drew.frozen? ⟨g, 0 + 0 * 2 + j, none⟩ = false := fun j hj => by
    simp at hlen
    refine ⟨?_, frozen_of_blk (w := w) hb _⟩
    show (w.cell? _).isSome = true
    rw [cell_of_blk' hb]
    simp
    omega
  have hrl : rest.length = n * 2 := by simp at hlen; omega
  have HC := Lib.hid hcells
  have HS := Lib.hid hspare
  have HN0 := Lib.hid hn0
  have HRL := Lib.hid hrl
  clear h h1 hb hx hlen had2 hn0 hcells hspare hrl
  go_enter Try.func23, Try.ntmps23
  go_wp2
  go_region_law (first | (refine step_append_room rfl _ _ _ (by rfl) 76 i0 2 Try.underlying62 hi hz1 g 0 0 cap (by rfl) ad n (cap - 1) rest (by rfl) HRL.out HC.out H1.out (by omega) HS.out ?_))
  have hrl := HRL.out
  have hlen := H.out.1
  simp at hlen
  have hw1 : w.drew.setCells g (0 + 0 * 2) rest = w.drew.setRow g (cur.toList.take (0 + 0 * 2) ++ rest ++ cur.toList.drop (0 + 0 * 2 + rest.length)).toArray := setCells_eq Try.prog (t := 76) (w := w.drew) HB.out (by omega) H1.out
  obtain ⟨w1, e1⟩ : ∃ w1, w.drew.setCells g (0 + 0 * 2) rest = w1 := ⟨_, rfl⟩
  rw [e1] at hw1 ⊢
  have hb1 : blk w1 g = some (.cells (cur.toList.take (0 + 0 * 2) ++ rest ++ cur.toList.drop (0 + 0 * 2 + rest.length)).toArray 76 (0, 0)) := by rw [hw1]; exact blk_setRow_eq _ _ _ _ _ _ HB.out
  have hc1 : Chg (fun i => i = g) w w1 := by rw [hw1]; exact chg_setRow (Chg.refl (fun i => i = g) w).drew (fun _ => rfl) _
  have hr1 := row_write (o := 0) (k := n + 1) (vs := rest) H.out (by omega) (Nat.le_refl _) fun cur' h' => by
    obtain rfl : cur = cur' := by
      have := HB.out.symm.trans h'
      simpa using this
    simpa using hb1
  have hsz : 2 * n + 2 ≤ (cur.toList.take (0 + 0 * 2) ++ rest ++ cur.toList.drop (0 + 0 * 2 + rest.length)).toArray.size := by simp; omega
  generalize (cur.toList.take (0 + 0 * 2) ++ rest ++ cur.toList.drop (0 + 0 * 2 + rest.length)).toArray = cur1 at *
  have hclr := fun c ty => run_clear_row (o := n * 2) hb1 (by omega) c ty
  have HB1 := Lib.hid hb1
  have HC1 := Lib.hid hc1
  have HR1 := Lib.hid hr1
  clear e1 hw1 hb1 hc1 hr1 hsz hlen hrl
  go_wp2
  go_ret
  have hlen := H.out.1
  simp at hlen
  have hrl := HRL.out
  have hb2 := blk_setRow_eq w1 g (cur1.toList.take (n * 2) ++ [Value.slice none 0 0, Value.int .u64 0] ++ cur1.toList.drop (n * 2 + 2)).toArray _ _ _ HB1.out
  have hr2 := row_write (w' := w1.setRow g (cur1.toList.take (n * 2) ++ [Value.slice none 0 0, Value.int .u64 0] ++ cur1.toList.drop (n * 2 + 2)).toArray) (o := n * 2) (k := n) (vs := [Value.slice none 0 0, Value.int .u64 0]) HR1.out (by simp; omega) (by omega) fun cur' h' => by
    obtain rfl : cur1 = cur' := by
      have := HB1.out.symm.trans h'
      simpa using this
    simpa using hb2
  refine ⟨rfl, ?_, HC1.out.trans (chg_setRow (Chg.refl (fun i => i = g) w1) (fun _ => rfl) _) fun _ _ h => h⟩
  have e : ((List.take (n * 2) ((List.take 0 (c0 :: c1 :: rest) ++ rest ++ List.drop (0 + rest.length) (c0 :: c1 :: rest)).take ((n + 1) * 2)) ++ [Value.slice none 0 0, Value.int .u64 0] ++ List.drop (n * 2 + [Value.slice none 0 0, Value.int .u64 0].length) ((List.take 0 (c0 :: c1 :: rest) ++ rest ++ List.drop (0 + rest.length) (c0 :: c1 :: rest)).take ((n + 1) * 2))).take (n * 2)) = rest := by
    simp only [List.take_zero, List.nil_append]
    rw [List.append_assoc, List.take_append_of_le_length (by simp; omega), List.take_take, List.take_take, List.take_append_of_le_length (by omega), List.take_of_length_le (by omega)]
  rw [e] at hr2
  simp only [List.append_assoc, List.cons_append, List.nil_append] at hr2
  exact hr2
end Go.Proofs.Ytpilfelcikelhaa
