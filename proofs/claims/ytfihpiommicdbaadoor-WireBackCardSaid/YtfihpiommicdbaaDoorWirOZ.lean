/- The laws' argument of steps, read with the reach of what it holds. No condition. -/
import Derived.Test.YtfihpiommicdbaaDoorWirO
import Derived.SizedLaws
namespace Go.Proofs.YtfihpiommicdbaaDoor
open Go.RowKit Go.Cl Go.ChangeShapes Go.WideShapes Go.Deep
set_option linter.unusedVariables false

/-- Data that weigh no more than the reach are read so. -/
def DecodesZ {α : Type} (P : Program) (t : TypeId) (R : Rd α) : Prop := ∀ {H : Type} {enc : TypeId × Value → H} {w : World} {base : Nat} {sp : Nat → Bool} {held : Bool} {fuel : Nat} {cs : List Value} {x : DataW H × List MemPlace}, DataW.trod enc P w base sp held fuel t cs = some x → (∀ n ∈ x.1.weights P t, n ≤ reachBytes) → ∃ y, R w cs y
theorem zOf {α : Type} {P : Program} {t : TypeId} {R : Rd α} (h : Decodes P t R) : DecodesZ P t R := fun hx _ => h hx
def zrStr : Rd ByteArray := fun w cs s => rStr w cs s ∧ s.size ≤ reachBytes
theorem zStr {P : Program} {t : TypeId} (ht : P.underlying t = some .string) : DecodesZ P t zrStr := fun {H enc w base sp held fuel cs x} h hz => by
  obtain ⟨s, h1, h2, h3⟩ := DataW.trod_string ht h
  refine ⟨s, ⟨h1, h3⟩, ?_⟩
  subst h2
  have := hz s.data.toList.length (by simp [DataW.weights])
  simpa using this
def zrSlice {α : Type} (n bb : Nat) (R : Rd α) : Rd (List α) := fun w cs xs => rSlice n R w cs xs ∧ xs.length * bb ≤ reachBytes
theorem weights_all {H : Type} {P : Program} {e : TypeId} {d : DataW H} {l : List (DataW H)} (h : d ∈ l) : ∀ n ∈ d.weights P e, n ∈ DataW.weightsAll P e l := by
  induction l with
  | nil => cases h
  | cons x r ih =>
    intro n hn
    rw [DataW.weightsAll]
    cases List.mem_cons.1 h with
    | inl e => subst e; exact List.mem_append.2 (.inl hn)
    | inr e => exact List.mem_append.2 (.inr (ih e n hn))
theorem zSlice {α : Type} {P : Program} {t e : TypeId} {n bb : Nat} {R : Rd α} (ht : P.underlying t = some (.slice e)) (hn : P.cellsOf e = n) (hb : P.bytesOf e = bb) (hR : DecodesZ P e R) : DecodesZ P t (zrSlice n bb R) := fun {H enc w base sp held fuel cs x} h hz => by
  rcases open_slice ht h with ⟨hcs, _⟩ | ⟨a, len, cap, m, n', D, Pl, hcs, _, hl, hm, hmm, hx, hi⟩
  · exact ⟨[], .inl ⟨rfl, hcs⟩, by simp⟩
  · subst hx
    dsimp only at hz
    unfold DataW.weights at hz
    simp only [ht] at hz
    have hlm : len ≤ m := by rw [hmm]; split <;> omega
    obtain ⟨l, h1, h2⟩ := exists_list len (p := fun i x => ∃ c, R w c x ∧ c.length = n ∧ ∀ j u, c[j]? = some u → w.cell? (a.add (i * n + j)) = some u) fun i hlt => by
      obtain ⟨c, hc, ht'⟩ := hi i (by omega)
      obtain ⟨y, hy⟩ := hR ht' fun k hk => hz k (List.mem_cons_of_mem _ (List.mem_append.2 (.inl (weights_all (List.mem_map.2 ⟨i, List.mem_range.2 hlt, rfl⟩) k hk))))
      obtain ⟨_, hcl, hat⟩ := World.cells?_some hc
      rw [hn] at hcl hat
      refine ⟨y, c, hy, hcl, fun j u hu => ?_⟩
      have hj : j < n := by rw [← hcl]; exact (List.getElem?_eq_some_iff.1 hu).1
      rw [← hu, ← hat j hj]
      rw [Go.Deep.add_add]
    refine ⟨l, .inr ⟨a, cap, by rw [h1]; exact hcs, by omega, hm, h2⟩, ?_⟩
    have h3 := hz _ (List.mem_cons_self)
    rw [hb, List.length_map, List.length_range] at h3
    rw [h1]
    refine Nat.le_trans (Nat.mul_le_mul_right _ (Nat.le_add_right _ _)) h3

abbrev zOp : Rd OpT := rStruct5 1 1 1 1 1 (rInt .i64) (rInt .u64) (rInt .i64) (zrSlice 1 1 (rInt .u8)) zrStr
theorem zStruct5 {α0 α1 α2 α3 α4 : Type} {P : Program} {t : TypeId} {f0 f1 f2 f3 f4 : Field} {n0 n1 n2 n3 n4 : Nat} {R0 : Rd α0} {R1 : Rd α1} {R2 : Rd α2} {R3 : Rd α3} {R4 : Rd α4} (ht : P.underlying t = some (.struct #[f0, f1, f2, f3, f4])) (hC : P.cellsOf t = 0 + n0 + n1 + n2 + n3 + n4) (o0 : f0.offset = 0 ∧ P.cellsOf f0.type = n0) (o1 : f1.offset = 0 + n0 ∧ P.cellsOf f1.type = n1) (o2 : f2.offset = 0 + n0 + n1 ∧ P.cellsOf f2.type = n2) (o3 : f3.offset = 0 + n0 + n1 + n2 ∧ P.cellsOf f3.type = n3) (o4 : f4.offset = 0 + n0 + n1 + n2 + n3 ∧ P.cellsOf f4.type = n4) (h0 : DecodesZ P f0.type R0) (h1 : DecodesZ P f1.type R1) (h2 : DecodesZ P f2.type R2) (h3 : DecodesZ P f3.type R3) (h4 : DecodesZ P f4.type R4) : DecodesZ P t (rStruct5 n0 n1 n2 n3 n4 R0 R1 R2 R3 R4) := fun {H enc w base sp held fuel cs x} h hz => by
  obtain ⟨xs, n, _, hx, hlen, hxl, hg⟩ := DataW.trod_struct ht h
  subst hx
  dsimp only at hz
  unfold DataW.weights at hz
  simp only [ht] at hz
  have hw : ∀ (j : Nat) (f : Field) (y : DataW H × List MemPlace), #[f0, f1, f2, f3, f4][j]? = some f → xs[j]? = some y → ∀ k ∈ y.1.weights P f.type, k ≤ reachBytes := fun j f y hf hy k hk => hz k (DataW.weights_mem_each (j := j) (t := f.type) (d := y.1) (by
    rw [List.getElem?_map, ← Array.getElem?_toList] at *
    rw [hf]; rfl) (by rw [List.getElem?_map, hy]; rfl) k hk)
  have g0 := hg 0 f0 rfl
  rw [o0.1, o0.2] at g0
  have e0 := List.getElem?_eq_getElem (show 0 < xs.length by rw [hxl]; simp)
  obtain ⟨y0, z0⟩ := h0 (g0.trans e0) (hw 0 f0 _ rfl e0)
  have g1 := hg 1 f1 rfl
  rw [o1.1, o1.2] at g1
  have e1 := List.getElem?_eq_getElem (show 1 < xs.length by rw [hxl]; simp)
  obtain ⟨y1, z1⟩ := h1 (g1.trans e1) (hw 1 f1 _ rfl e1)
  have g2 := hg 2 f2 rfl
  rw [o2.1, o2.2] at g2
  have e2 := List.getElem?_eq_getElem (show 2 < xs.length by rw [hxl]; simp)
  obtain ⟨y2, z2⟩ := h2 (g2.trans e2) (hw 2 f2 _ rfl e2)
  have g3 := hg 3 f3 rfl
  rw [o3.1, o3.2] at g3
  have e3 := List.getElem?_eq_getElem (show 3 < xs.length by rw [hxl]; simp)
  obtain ⟨y3, z3⟩ := h3 (g3.trans e3) (hw 3 f3 _ rfl e3)
  have g4 := hg 4 f4 rfl
  rw [o4.1, o4.2] at g4
  have e4 := List.getElem?_eq_getElem (show 4 < xs.length by rw [hxl]; simp)
  obtain ⟨y4, z4⟩ := h4 (g4.trans e4) (hw 4 f4 _ rfl e4)
  exact ⟨(y0, y1, y2, y3, y4), hlen.trans hC, z0, z1, z2, z3, z4⟩
theorem zopD : DecodesZ Tryd.prog 50 zOp := zStruct5 Tryd.underlying50 (by kernel_rfl) ⟨rfl, by kernel_rfl⟩ ⟨rfl, by kernel_rfl⟩ ⟨rfl, by kernel_rfl⟩ ⟨rfl, by kernel_rfl⟩ ⟨rfl, by kernel_rfl⟩
  (zOf (dInt Tryd.underlying3)) (zOf (dInt Tryd.underlying48)) (zOf (dInt Tryd.underlying3)) (zSlice Tryd.underlying24 (by kernel_rfl) bytesOf5 (zOf (dInt Tryd.underlying5))) (zStr Tryd.underlying9)
theorem zopsD : DecodesZ Tryd.prog 33 (rSlice 5 zOp) := fun h hz => by
  obtain ⟨y, hy⟩ := zSlice (bb := Tryd.prog.bytesOf 50) Tryd.underlying33 (by kernel_rfl) rfl zopD h hz
  exact ⟨y, hy.1⟩

/-- No text of a step is longer than memory reaches. -/
def OpsSmall (ps : List OpT) : Prop := ∀ p ∈ ps, p.2.2.2.1.length ≤ 140737488355328 ∧ p.2.2.2.2.size ≤ 140737488355328
theorem rOp_of {w : World} {c : List Value} {p : OpT} (h : zOp w c p) : rOp w c p ∧ p.2.2.2.1.length ≤ 140737488355328 ∧ p.2.2.2.2.size ≤ 140737488355328 := by
  obtain ⟨hl, h0, h1, h2, h3, h4⟩ := h
  have := reachBytes_lt
  exact ⟨⟨hl, h0, h1, h2, h3.1, h4.1⟩, by have := h3.2; omega, by have := h4.2; omega⟩
theorem rOps_of {w : World} {v : Value} {ps : List OpT} (h : rSlice 5 zOp w [v] ps) : rSlice 5 rOp w [v] ps ∧ OpsSmall ps := by
  rcases h with ⟨h1, h2⟩ | ⟨a, cap, h1, h2, h3, h4⟩
  · exact ⟨.inl ⟨h1, h2⟩, fun p hp => by subst h1; cases hp⟩
  · refine ⟨.inr ⟨a, cap, h1, h2, h3, fun i x hx => ?_⟩, fun p hp => ?_⟩
    · obtain ⟨c, g1, g2⟩ := h4 i x hx
      exact ⟨c, (rOp_of g1).1, g2⟩
    · obtain ⟨i, hi⟩ := List.getElem?_of_mem hp
      obtain ⟨c, g1, g2⟩ := h4 i p hi
      exact (rOp_of g1).2

set_option maxRecDepth 100000 in
theorem open_opsZ {H : Type} {enc : TypeId × Value → H} {w : World} {b0 base : Nat} {sp : Nat → Bool} {held : Bool} {v : Value} {d : DataW H} {p : List MemPlace}
    (hok : Value.okWide Tryd.prog w .any b0 33 v) (h : DataW.Trod enc Tryd.prog w base sp held 33 v d p) (hz : ∀ n ∈ d.weights Tryd.prog 33, n ≤ reachBytes) : ∃ us, OpsAre w v us ∧ OpsSmall us := by
  obtain ⟨a, len, cap, rfl⟩ := okWide_slice Tryd.underlying33 hok
  obtain ⟨m, hm⟩ := h
  obtain ⟨us, hu⟩ := zopsD hm hz
  exact ⟨us, ops_are (rOps_of hu).1, (rOps_of hu).2⟩
end Go.Proofs.YtfihpiommicdbaaDoor
