/- Contracts of package memory's Copy; slices.Grow of nil. -/
import Derived.Test.YtenbkdmaiooldaaMemI
import Derived.Lib.AppendZeros
import Derived.Laws.OwnMore
import Derived.Maps.AppendAt
namespace Go.Proofs.Ytenbkdmaiooldaa
open Go.RowKit Go.Cl
open Go.Maps (Keyed)
open Go.ChangeMaps (setBlock)
set_option linter.unusedVariables false
set_option linter.unusedSimpArgs false
attribute [local go_sem] lt_add_one' blk_alloc_past blk_alloc_at blk_drew blk_setCell_ne blk_setBlock_ne blk_setBlock_eq cell_setBlock_ne frozen_setBlock_ne size_setBlock

theorem placeE_ok {pages a n : Nat} (h : a + n ≤ pages * 4096) : placeE pages a n = 0 := by
  unfold placeE
  rw [if_neg (by omega), if_neg (by omega)]

set_option maxHeartbeats 1000000 in
set_option maxRecDepth 100000 in
theorem copy_ok {w : World} {b m : Nat} {pg : List (Nat × Nat)} {pages : Nat} {f : Nat → Int} (h : MemIs w b m pg pages f) {t a n : Nat} (ht : t + n ≤ pages * 4096) (ha : a + n ≤ pages * 4096) :
    Calls Try.prog 36 #[ptrV b, .int .u32 t, .int .u32 a, .int .i64 n] w fun e w' => e = .returned (.int .i64 0) ∧ Wrote w w' b m pg pages (put f t n (fun j => f (a + j))) := by
  have hp := h.size
  have c0 := place_ok h a n (by omega) (by omega) (by omega)
  have c1 := place_ok h t n (by omega) (by omega) (by omega)
  rw [placeE_ok ha] at c0
  rw [placeE_ok ht] at c1
  have C0 := Lib.hid c0
  have C1 := Lib.hid c1
  have RD := Lib.hid (read_ok h ha)
  have H := Lib.hid h
  clear c0 c1 h
  unfold ptrV at *
  go_enter Try.func36, Try.ntmps36
  go_wp2_with fail
  refine C0.out.mono ?_
  rintro e w' ⟨rfl, rfl⟩
  go_wp2_with fail
  refine C1.out.mono ?_
  rintro e w' ⟨rfl, rfl⟩
  go_wp2_with fail
  refine RD.out.mono ?_
  rintro e w2 ⟨g, rfl, hg, hr, hc⟩
  have h2 := H.out.frame hc fun _ _ => id
  have hng : ¬ Foot b m pg g := fun e => by
    have := H.out.lt _ e
    omega
  have hs2 := src_row hr fun j _ => H.out.byte _
  have HH := Lib.hid h2
  have HN := Lib.hid hng
  have HS := Lib.hid hs2
  have HC := Lib.hid hc
  clear hg hr hc h2 hng hs2
  go_wp2_with fail
  refine (write_any HH.out HS.out HN.out (Nat.le_refl _) (by omega) ht).mono ?_
  rintro e w3 ⟨rfl, hw⟩
  have HW := Lib.hid hw
  clear hw
  go_wp2
  go_ret
  exact ⟨rfl, Wrote.trans (HC.out.mono fun _ _ h => h.elim) (fun i hi => .inl hi) HW.out⟩

set_option maxHeartbeats 1000000 in
set_option maxRecDepth 100000 in
theorem copy_bad {w : World} {b m : Nat} {pg : List (Nat × Nat)} {pages : Nat} {f : Nat → Int} (h : MemIs w b m pg pages f) {t a n : Int} (ht0 : 0 ≤ t) (ht : t ≤ 4294967295) (ha0 : 0 ≤ a) (ha : a ≤ 4294967295) (hn : -9223372036854775808 ≤ n ∧ n ≤ 9223372036854775807) (hw : placeE pages a n ≠ 0 ∨ placeE pages t n ≠ 0) :
    Calls Try.prog 36 #[ptrV b, .int .u32 t, .int .u32 a, .int .i64 n] w fun e w' => e = .returned (.int .i64 (if placeE pages a n ≠ 0 then placeE pages a n else placeE pages t n)) ∧ w = w' := by
  have c0 := place_ok h a n ha0 ha hn
  have c1 := place_ok h t n ht0 ht hn
  generalize placeE pages a n = e0 at *
  generalize placeE pages t n = e1 at *
  have C0 := Lib.hid c0
  have C1 := Lib.hid c1
  clear c0 c1 h
  unfold ptrV at *
  by_cases h0 : e0 = 0
  · subst h0
    have n1 : (e1 != 0) = true := by simpa using hw
    simp only [ne_eq, not_true_eq_false, if_false]
    go_enter Try.func36, Try.ntmps36
    go_wp2_with fail
    refine C0.out.mono ?_
    rintro e w' ⟨rfl, rfl⟩
    go_wp2_with fail
    refine C1.out.mono ?_
    rintro e w' ⟨rfl, rfl⟩
    go_wp2
    go_ret
    exact ⟨rfl, rfl⟩
  · have n1 : (e0 != 0) = true := by simpa using h0
    rw [if_pos h0]
    go_enter Try.func36, Try.ntmps36
    go_wp2_with fail
    refine C0.out.mono ?_
    rintro e w' ⟨rfl, rfl⟩
    go_wp2
    go_ret
    exact ⟨rfl, rfl⟩

/-- An append whose run is told. -/
theorem wpList_append_run {P : Program} {w : World} {ops : Array Oper} {rest : List Oper} {o : Oper} {a : Act} {Q : Exit → Act → World → Prop} (hgd : o.guard = none) (s x : Operand) (t tn : TypeId)
    (ho : o.op = .call { callee := .builtin .append, args := #[s, x], argTypes := #[t, tn] }) (vs vx : Value) (hs : a.eval s = vs) (hx : a.eval x = vx) (v : Value) (w' : World)
    (hr : (Builtin.append_ #[t, tn] o.type #[vs, vx]).run P w = .ok v w') (h : wpList P ops Q rest (a.put o.dst v) w') : wpList P ops Q (o :: rest) a w := by
  refine wpList_plain hgd fun K hK => ?_
  unfold Oper.wp execOp
  simp only [ho, resolve, invoke, builtin, Sem.run_bind, Sem.run_pure, Result.andThen_ok, List.map_toArray, List.map_cons, List.map_nil, hs, hx, hr]
  exact hK _ _ h

set_option maxHeartbeats 1000000 in
set_option maxRecDepth 100000 in
/-- Room for n bytes. -/
theorem grow_nil (w : World) (n : Nat) (hn : n ≤ 140737488355328) :
    Calls Try.prog 83 #[.slice none 0 0, .int .i64 n] w fun e w' => ∃ v, e = .returned v ∧ w'.ownsRow w.heap.size 5 1 v 0 [] ∧ Chg (fun _ => False) w w' := by
  obtain ⟨i0, hi, hz0, hz1, hz2⟩ := info5z
  by_cases h0 : n = 0
  · subst h0
    go_enter Try.func83, Try.ntmps83
    go_wp2
    go_ret
    exact ⟨_, rfl, ⟨rfl, .inl ⟨rfl, rfl⟩⟩, Chg.refl _ _⟩
  · have hap := fun ty => Go.Lib.run_append_nil_zeros (P := Try.prog) w 58 3 ty 5 i0 (.int .u8 0) .i64 .i64 Try.underlying58 Try.underlying3 hi hz0 n (by omega) (by omega) (by omega) (by rw [hz2]; omega)
    have e0 : (0 : Int) < n := by omega
    have hcap := grownCap_le_maxLen w n 0 5 (by unfold maxLen; omega)
    have hge := grownCap_ge w n 0 5
    generalize grownCap w n 0 5 = cap at *
    have HCAP := Lib.hid hcap
    go_enter Try.func83, Try.ntmps83
    have HAP := Lib.hid hap
    clear hap
    go_wp2_with (at_builtin; refine wpList_append_run rfl _ _ 58 3 rfl _ _ rfl rfl _ _ (HAP.out _) ?_)
    go_wp2
    go_ret
    refine ⟨_, rfl, ?_, ((Chg.refl _ _).drew).alloc _⟩
    have := World.ownsRow_made (base := w.heap.size) (size := 1) (e := 5) w.drew (Builtin.zeroCells (Value.int IntKind.u8 0).cells n ++ Builtin.zeroCells (Value.int IntKind.u8 0).cells (cap - n)) cap (Nat.le_refl _) hcap (by simp [Builtin.zeroCells, Value.cells]; omega)
    exact this
end Go.Proofs.Ytenbkdmaiooldaa
