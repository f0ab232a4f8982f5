/- The laws' arguments read, with the second form's bulk: lists of bytes. No condition. -/
import Derived.Test.YtfihpiommicdbaaDoorWirU
namespace Go.Proofs.YtfihpiommicdbaaDoor
open Go.RowKit Go.Cl Go.ChangeShapes Go.WideShapes Go.Deep
set_option linter.unusedVariables false

namespace bulks
theorem one_le {H : Type} (d : DataW H) : 1 ≤ Rows.uptoBulk d := by
  cases d with
  | lit l => cases l <;> simp [Rows.uptoBulk]
  | nil => simp [Rows.uptoBulk]
  | ptr d => simp [Rows.uptoBulk]
  | slice elems spare => simp [Rows.uptoBulk]
  | agg parts => simp [Rows.uptoBulk]
  | iface t d => simp [Rows.uptoBulk]
  | map entries => simp [Rows.uptoBulk]
  | held h => simp [Rows.uptoBulk]
theorem part_le {H : Type} {d : DataW H} {l : List (DataW H)} (h : d ∈ l) : Rows.uptoBulk d ≤ Rows.uptoBulkAll l := by
  induction l with
  | nil => cases h
  | cons x r ih =>
    simp only [Rows.uptoBulkAll]
    cases List.mem_cons.1 h with
    | inl e => subst e; omega
    | inr e => have := ih e; omega
theorem length_le {H : Type} (l : List (DataW H)) : l.length ≤ Rows.uptoBulkAll l := by
  induction l with
  | nil => simp [Rows.uptoBulkAll]
  | cons x r ih => have := one_le x; simp only [Rows.uptoBulkAll, List.length_cons]; omega
theorem bound {H : Type} {l : List (DataW H)} (hk : Rows.uptoSmall H l = true) : Rows.uptoBulkAll l ≤ 1048576 := of_decide_eq_true hk
end bulks

theorem flat_bulk {H : Type} : ∀ (ps : List (List Int)) (D : Nat → DataW H), (∀ i x, ps[i]? = some x → x.length ≤ Rows.uptoBulk (D i)) → ps.flatten.length ≤ Rows.uptoBulkAll ((List.range ps.length).map D) := by
  intro ps
  induction ps with
  | nil => intro D _; simp
  | cons x ps ih =>
    intro D h
    have h0 := h 0 x rfl
    have h1 := ih (fun i => D (i + 1)) fun i y hy => h (i + 1) y hy
    rw [List.length_cons, List.range_succ_eq_map]
    simp only [List.map_cons, List.map_map, List.flatten_cons, List.length_append, Rows.uptoBulkAll]
    have e : (List.range ps.length).map (D ∘ Nat.succ) = (List.range ps.length).map fun i => D (i + 1) := rfl
    rw [e]
    omega

set_option maxRecDepth 100000 in
/-- Bytes in so many cells, their bulk. -/
theorem bytes_bulk {H : Type} {enc : TypeId × Value → H} {w : World} {base : Nat} {sp : Nat → Bool} {held : Bool} {fuel : Nat} {cs : List Value} {d : DataW H} {p : List MemPlace}
    (h : DataW.trod enc Tryd.prog w base sp held fuel 24 cs = some (d, p)) : ∃ v x, cs = [v] ∧ BytesIs w v x ∧ x.length ≤ Rows.uptoBulk d := by
  obtain ⟨x, hx⟩ := dBytes h
  rcases open_slice Tryd.underlying24 h with ⟨hcs, hd⟩ | ⟨a, len', cap2, m2, n', D, Pl, hcs, _, hl2, hm2, hmm, hd, _⟩
  · subst hcs
    refine ⟨_, x, rfl, nums_bytes (nums_are hx), ?_⟩
    obtain ⟨oa, cap', hv, _⟩ := nums_are hx
    simp only [Value.slice.injEq] at hv
    omega
  · subst hcs
    refine ⟨_, x, rfl, nums_bytes (nums_are hx), ?_⟩
    obtain ⟨oa, cap', hv, _⟩ := nums_are hx
    simp only [Value.slice.injEq] at hv
    rw [(Prod.mk.inj hd).1]
    simp only [Rows.uptoBulk]
    have := bulks.length_le ((List.range len').map D)
    rw [List.length_map, List.length_range] at this
    omega

set_option maxRecDepth 100000 in
theorem open_partsU {H : Type} {enc : TypeId × Value → H} {w : World} {b0 base : Nat} {sp : Nat → Bool} {held : Bool} {v : Value} {d : DataW H} {p : List MemPlace}
    (hok : Value.okWide Tryd.prog w .any b0 22 v) (h : DataW.Trod enc Tryd.prog w base sp held 22 v d p) (hz : Rows.uptoBulk d ≤ 1048576) :
    ∃ ps oa c, v = .slice oa ps.length c ∧ ps.length ≤ c ∧ PartsAre w oa ps ∧ ps.length ≤ 1048576 ∧ (cat ps).length ≤ 1048576 := by
  obtain ⟨a, len, cap, rfl⟩ := okWide_slice Tryd.underlying22 hok
  obtain ⟨m, hm⟩ := h
  rcases open_slice Tryd.underlying22 hm with ⟨hcs, _⟩ | ⟨a', len', cap2, m2, n', D, Pl, hcs, _, hl2, hm2, hmm, hd, hat⟩
  · simp only [Value.cells, List.cons.injEq, Value.slice.injEq, and_true] at hcs
    obtain ⟨rfl, rfl, rfl⟩ := hcs
    exact ⟨[], none, 0, rfl, by simp, fun i x hx => by simp at hx, by simp, by simp [cat]⟩
  · simp only [Value.cells, List.cons.injEq, Value.slice.injEq, and_true] at hcs
    obtain ⟨rfl, rfl, rfl⟩ := hcs
    have hlm : len ≤ m2 := by rw [hmm]; split <;> omega
    obtain ⟨ps, h1, h2⟩ := exists_list len (p := fun i x => x.length ≤ Rows.uptoBulk (D i) ∧ ∃ v, w.cell? (a'.add i) = some v ∧ BytesIs w v x) fun i hlt => by
      obtain ⟨c, hc, ht'⟩ := hat i (by omega)
      obtain ⟨v, x, rfl, hb, hx⟩ := bytes_bulk ht'
      obtain ⟨_, hcl, hat'⟩ := World.cells?_some hc
      have c24 : Tryd.prog.cellsOf 24 = 1 := by kernel_rfl
      rw [c24] at hcl hat'
      refine ⟨x, hx, v, ?_, hb⟩
      have := hat' 0 (by omega)
      rw [Go.Deep.add_add] at this
      simpa using this
    rw [(Prod.mk.inj hd).1] at hz
    simp only [Rows.uptoBulk] at hz
    have hf := flat_bulk ps D fun i x hx => (h2 i x hx).1
    have hl := bulks.length_le ((List.range len).map D)
    rw [List.length_map, List.length_range] at hl
    rw [h1] at hf
    refine ⟨ps, some a', cap, by rw [h1], by omega, fun i x hx => ?_, by omega, by unfold cat; omega⟩
    obtain ⟨_, v, hv, hb⟩ := h2 i x hx
    exact ⟨a', v, rfl, hv, hb⟩
end Go.Proofs.YtfihpiommicdbaaDoor
