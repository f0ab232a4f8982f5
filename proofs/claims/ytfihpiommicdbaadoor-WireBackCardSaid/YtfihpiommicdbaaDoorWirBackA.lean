/- WireBack: the steps that it keeps, and how many bytes they are (plain). No condition. -/
import Derived.Test.YtfihpiommicdbaaDoorWirY
import Derived.Test.YtfihpiommicdbaaDoorWirOZ
import Derived.Test.YtfihpiommicdbaaDoorWirI
namespace Go.Proofs.YtfihpiommicdbaaDoor
open Go.RowKit Go.Cl
set_option linter.unusedVariables false

/-- A step, and where its bytes lie. -/
abbrev OpV := OpT × Value
def opCells (x : OpV) : List Value := [.int .i64 x.1.1, .int .u64 x.1.2.1, .int .i64 x.1.2.2.1, x.2, .string x.1.2.2.2.2]
def opsCells (l : List OpV) : List Value := l.flatMap opCells
theorem opsCells_snoc (l : List OpV) (x : OpV) : opsCells (l ++ [x]) = opsCells l ++ opCells x := by simp [opsCells]
theorem opsCells_at : ∀ (l : List OpV) (i : Nat) (x : OpV), l[i]? = some x → ∀ j u, (opCells x)[j]? = some u → (opsCells l)[i * 5 + j]? = some u
  | [], i, x, h => by simp at h
  | y :: l, 0, x, h => fun j u hu => by
    simp at h
    subst h
    have hj : j < (opCells y).length := (List.getElem?_eq_some_iff.1 hu).1
    simp only [opsCells, List.flatMap_cons, Nat.zero_mul, Nat.zero_add]
    rw [List.getElem?_append_left hj]
    exact hu
  | y :: l, i + 1, x, h => fun j u hu => by
    have ih := opsCells_at l i x (by simpa using h) j u hu
    have e : (i + 1) * 5 + j = (opCells y).length + (i * 5 + j) := by simp [opCells]; omega
    simp only [opsCells, List.flatMap_cons]
    rw [e, List.getElem?_append_right (by omega), Nat.add_sub_cancel_left]
    exact ih
/-- A step that is kept. -/
def OpOkV (w : World) (x : OpV) : Prop := BytesIs w x.2 x.1.2.2.2.1 ∧ OpOk x.1 ∧ OpFit x.1

theorem ops_at {w wr : World} {base : Nat} {v : Value} {l : List OpV} (hr : wr.ownsRow base 50 5 v l.length (opsCells l)) (hl : ∀ x ∈ l, OpOkV w x) (hn : 0 < l.length) :
    ∃ g cap, v = .slice (some ⟨g, 0, none⟩) l.length cap ∧ base ≤ g ∧ l.length ≤ cap ∧ cap ≤ maxLen ∧ OpsAt w wr g 0 (l.map Prod.fst) := by
  obtain ⟨g, cap, cur, hv, h1, h2, h3, h4, _, h5⟩ := row_at hr hn
  refine ⟨g, cap, hv, h1, h2, h3, cur, h4, fun i p hp => ?_⟩
  rw [List.getElem?_map] at hp
  obtain ⟨x, hx, rfl⟩ : ∃ x, l[i]? = some x ∧ x.1 = p := by
    cases h : l[i]? with
    | none => rw [h] at hp; simp at hp
    | some x => rw [h] at hp; simp at hp; exact ⟨x, rfl, hp⟩
  obtain ⟨b1, b2, b3⟩ := hl x (List.mem_of_getElem? hx)
  have hc : ∀ j u, (opCells x)[j]? = some u → cur[0 + i * 5 + j]? = some u := fun j u hu => by
    have := h5 (i * 5 + j) u (opsCells_at l i x hx j u hu)
    rw [cell_of_blk' h4] at this
    rw [Nat.zero_add]
    exact this
  exact ⟨x.2, hc 0 _ rfl, hc 1 _ rfl, hc 2 _ rfl, hc 3 _ rfl, hc 4 _ rfl, b1, b2⟩

/-! ### how many bytes -/
def wOp (p : OpT) : Nat := 20 + p.2.2.2.1.length + p.2.2.2.2.size
def wOps : List OpT → Nat
  | [] => 0
  | p :: l => wOp p + wOps l
theorem wOps_snoc (l : List OpT) (p : OpT) : wOps (l ++ [p]) = wOps l + wOp p := by
  induction l with
  | nil => simp [wOps]
  | cons q l ih => simp only [List.cons_append, wOps, ih]; omega
theorem encOne_w (p : OpT) : (encOne p).length ≤ wOp p := by
  unfold encOne wOp
  split
  · rw [leB_len]; omega
  · split
    · rw [leB_len]; omega
    · split
      · rw [leB_len]; omega
      · split
        · rw [leB_len]; omega
        · split
          · omega
          · split
            · rw [List.length_append, leB_len, strNums_len]; omega
            · simp
theorem encs_w {f : List OpT → List Int × Nat} (hf : ∀ l, (f l).1.length + wOps (l.drop (f l).2) ≤ wOps l) : ∀ c l, (encs f c l).1.length + wOps (l.drop (encs f c l).2) ≤ wOps l := by
  intro c
  induction c with
  | zero => intro l; simp [encs]
  | succ c ih =>
    intro l
    rw [encs]
    split
    · simp
    · have h1 := hf l
      have h2 := ih (l.drop (f l).2)
      rw [List.drop_drop] at h2
      simp only [List.length_append]
      omega
theorem enc_w : ∀ d l, (enc d l).1.length + wOps (l.drop (enc d l).2) ≤ wOps l := by
  intro d
  induction d with
  | zero =>
    intro l
    cases l with
    | nil => simp [enc]
    | cons p l =>
      have h1 := encOne_w p
      have h2 : 20 ≤ wOp p := by unfold wOp; omega
      simp only [enc]
      split
      · simp [encPart, leB_len, wOps]; omega
      · simp [wOps]; omega
  | succ d ih =>
    intro l
    cases l with
    | nil => simp [enc]
    | cons p l =>
      have h1 := encOne_w p
      have h2 : 20 ≤ wOp p := by unfold wOp; omega
      simp only [enc]
      split
      · have h3 := encs_w ih (pickI p.2.2.1 5).toNat l
        simp only [encPart, List.length_append, leB_len, wOps]
        rw [show 1 + (encs (enc d) (pickI p.2.2.1 5).toNat l).2 = (encs (enc d) (pickI p.2.2.1 5).toNat l).2 + 1 by omega, List.drop_succ_cons]
        omega
      · simp [wOps]; omega

/-- The whole script, one field behind the other. -/
def whole (l : List OpT) : List Int := (encs (enc 3) l.length l).1
theorem whole_le (l : List OpT) : (whole l).length ≤ wOps l := by
  have := encs_w (enc_w 3) l.length l
  unfold whole
  omega
theorem encs_nil (f : List OpT → List Int × Nat) (c : Nat) : encs f c [] = ([], 0) := by cases c <;> simp [encs]
theorem encs_step (f : List OpT → List Int × Nat) (c : Nat) (q : OpT) (l : List OpT) : encs f (c + 1) (q :: l) = ((f (q :: l)).1 ++ (encs f c ((q :: l).drop (f (q :: l)).2)).1, (f (q :: l)).2 + (encs f c ((q :: l).drop (f (q :: l)).2)).2) := by
  rw [encs, if_neg (by simp)]
end Go.Proofs.YtfihpiommicdbaaDoor
