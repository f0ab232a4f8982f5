/- WireBack: what a field is as bytes (plain); steps that lie in a row; contract of the law's 'writes'. No condition. -/
import Derived.Test.YtfihpiommicdbaaDoorWirQ
import Derived.Test.YtfihpiommicdbaaDoorWirO
namespace Go.Proofs.YtfihpiommicdbaaDoor
open Go.RowKit Go.Cl
set_option linter.unusedVariables false
set_option linter.unusedSimpArgs false
attribute [local go_sem] lt_add_one' blk_alloc_past blk_alloc_at blk_drew blk_setCell_ne

/-- Some fields, one behind the other: their bytes, how many steps they were. -/
def encs (f : List OpT → List Int × Nat) : Nat → List OpT → List Int × Nat
  | 0, _ => ([], 0)
  | c + 1, l => if l = [] then ([], 0) else ((f l).1 ++ (encs f c (l.drop (f l).2)).1, (f l).2 + (encs f c (l.drop (f l).2)).2)
/-- One field, not a part. -/
def encOne (p : OpT) : List Int :=
  if p.1 = 1 then leB (p.2.1 % 256) 1 else if p.1 = 2 then leB (p.2.1 % 65536) 2 else if p.1 = 3 then leB (p.2.1 % 4294967296) 4 else if p.1 = 4 then leB p.2.1 8
  else if p.1 = 5 then p.2.2.2.1 else if p.1 = 6 then leB p.2.2.2.2.size 2 ++ strNums p.2.2.2.2 else []
def encPart (r : List Int × Nat) : List Int × Nat := (leB r.1.length 4 ++ r.1, 1 + r.2)
def enc : Nat → List OpT → List Int × Nat
  | _, [] => ([], 0)
  | 0, p :: l => if p.1 = 8 then encPart ([], 0) else (encOne p, 1)
  | d + 1, p :: l => if p.1 = 8 then encPart (encs (enc d) (pickI p.2.2.1 5).toNat l) else (encOne p, 1)

theorem enc_pos (d : Nat) (p : OpT) (l : List OpT) : 0 < (enc d (p :: l)).2 := by
  cases d <;> (simp only [enc]; split <;> simp [encPart]; try omega)
theorem encs_le {f : List OpT → List Int × Nat} (hf : ∀ l, (f l).2 ≤ l.length) : ∀ c l, (encs f c l).2 ≤ l.length := by
  intro c
  induction c with
  | zero => intro l; simp [encs]
  | succ c ih =>
    intro l
    rw [encs]
    split
    · simp
    · have h1 := hf l
      have h2 := ih (l.drop (f l).2)
      rw [List.length_drop] at h2
      dsimp only
      omega
theorem enc_le : ∀ d l, (enc d l).2 ≤ l.length := by
  intro d
  induction d with
  | zero => intro l; cases l with
    | nil => simp [enc]
    | cons p l => simp only [enc]; split <;> simp [encPart]
  | succ d ih => intro l; cases l with
    | nil => simp [enc]
    | cons p l =>
      simp only [enc]
      split
      · have := encs_le ih (pickI p.2.2.1 5).toNat l
        simp [encPart]
        omega
      · simp

/-- Steps that lie in a row: the bytes of theirs lay there when the law began. -/
def OpsAt (w0 w : World) (g o : Nat) (ps : List OpT) : Prop :=
  ∃ cur, blk w g = some (.cells cur 50 (0, 0)) ∧ ∀ i p, ps[i]? = some p → ∃ bv, cur[o + i * 5]? = some (.int .i64 p.1) ∧ cur[o + i * 5 + 1]? = some (.int .u64 p.2.1) ∧ cur[o + i * 5 + 2]? = some (.int .i64 p.2.2.1) ∧ cur[o + i * 5 + 3]? = some bv ∧ cur[o + i * 5 + 4]? = some (.string p.2.2.2.2) ∧ BytesIs w0 bv p.2.2.2.1 ∧ OpOk p
theorem OpsAt.frame {S : Nat → Prop} {w0 w w' : World} {g o : Nat} {ps : List OpT} (h : OpsAt w0 w g o ps) (hc : Chg S w w') (hs : ¬ S g) : OpsAt w0 w' g o ps := by
  obtain ⟨cur, hb, h⟩ := h
  exact ⟨cur, hc.blk' hb hs, h⟩
theorem OpsAt.drop {w0 w : World} {g o : Nat} {ps : List OpT} (h : OpsAt w0 w g o ps) (n : Nat) : OpsAt w0 w g (o + n * 5) (ps.drop n) := by
  obtain ⟨cur, hb, h⟩ := h
  refine ⟨cur, hb, fun i p hp => ?_⟩
  rw [List.getElem?_drop] at hp
  have := h (n + i) p hp
  rw [show o + (n + i) * 5 = o + n * 5 + i * 5 by omega] at this
  exact this

theorem WrIs.not_foot {w : World} {base b m : Nat} {v : Value} {s : WS} (h : WrIs w base b m v s) {P : Nat} {cs : Array Value} {t : TypeId} {fr : Nat × Nat} (hb : blk w P = some (.cells cs t fr)) (h1 : t ≠ 93) (h2 : t ≠ 5) : ¬ WFoot b m v P := by
  rintro (rfl | rfl | hP)
  · rw [h.st] at hb
    simp only [Option.some.injEq, Obj.cells.injEq] at hb
    exact h1 hb.2.1.symm
  · obtain ⟨es, clock, hm, _⟩ := h.mp
    simp only [blk] at hb
    rw [hm] at hb
    cases hb
  · obtain ⟨_, cur, hc⟩ := row_block h.row hP.symm
    rw [hc] at hb
    simp only [Option.some.injEq, Obj.cells.injEq] at hb
    exact h2 hb.2.1.symm
end Go.Proofs.YtfihpiommicdbaaDoor
