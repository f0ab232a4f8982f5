/- The laws' argument of uses, read as triples of numbers. No condition. -/
import Derived.Test.YtoglgkplddlemaaTlbD
import Derived.Test.YtoglgkplddlemaaLibRead
namespace Go.Proofs.Ytoglgkplddlemaa
open Go.RowKit Go.Cl

abbrev UseT := Int × Int × Int
abbrev rUse : Rd UseT := rStruct3 1 1 1 (rInt .i64) (rInt .i64) (rInt .i64)
theorem dUse : Decodes Try.prog 34 rUse := dStruct3 Try.underlying34 (by kernel_rfl) ⟨rfl, by kernel_rfl⟩ ⟨rfl, by kernel_rfl⟩ ⟨rfl, by kernel_rfl⟩ (dInt Try.underlying3) (dInt Try.underlying3) (dInt Try.underlying3)
theorem dUses : Decodes Try.prog 22 (rSlice 3 rUse) := dSlice Try.underlying22 (by kernel_rfl) dUse

def UseOk (u : UseT) : Prop := I64 u.1 ∧ I64 u.2.1 ∧ I64 u.2.2

theorem i64_of {n : Int} (h : (Lit.int .i64 n).wf = true) : I64 n := by
  simp [Lit.wf, IntKind.min, IntKind.max, IntKind.signed, IntKind.bits] at h; unfold I64; omega

theorem use_cells {w : World} {c : List Value} {u : UseT} (h : rUse w c u) : c = [.int .i64 u.1, .int .i64 u.2.1, .int .i64 u.2.2] ∧ UseOk u := by
  obtain ⟨hl, ⟨h0, w0⟩, ⟨h1, w1⟩, ⟨h2, w2⟩⟩ := h
  match c, hl with
  | [x, y, z], _ =>
    simp at h0 h1 h2
    subst h0 h1 h2
    exact ⟨rfl, i64_of w0, i64_of w1, i64_of w2⟩

/-- A slice of uses. -/
def UsesAre (w : World) (v : Value) (us : List UseT) : Prop :=
  (us = [] ∧ v = .slice none 0 0) ∨ ∃ (a : Addr) (cap : Nat), v = .slice (some a) us.length cap ∧ us.length ≤ cap ∧ cap ≤ maxLen ∧
    ∀ i u, us[i]? = some u → w.cell? (a.add (i * 3)) = some (.int .i64 u.1) ∧ w.cell? (a.add (i * 3 + 1)) = some (.int .i64 u.2.1) ∧ w.cell? (a.add (i * 3 + 2)) = some (.int .i64 u.2.2) ∧ UseOk u

theorem uses_are {w : World} {v : Value} {us : List UseT} (h : rSlice 3 rUse w [v] us) : UsesAre w v us := by
  rcases h with ⟨h1, h2⟩ | ⟨a, cap, h1, h2, h3, h4⟩
  · simp at h2
    exact .inl ⟨h1, h2⟩
  · simp at h1
    refine .inr ⟨a, cap, h1, h2, h3, fun i u hu => ?_⟩
    obtain ⟨c, hc, hl, hat⟩ := h4 i u hu
    obtain ⟨rfl, hok⟩ := use_cells hc
    exact ⟨hat 0 _ rfl, hat 1 _ rfl, hat 2 _ rfl, hok⟩

set_option maxRecDepth 100000 in
theorem open_uses {H : Type} {enc : TypeId × Value → H} {w : World} {b0 base : Nat} {sp : Nat → Bool} {held : Bool} {v : Value} {d : DataW H} {p : List MemPlace}
    (hok : Value.okWide Try.prog w .any b0 22 v) (h : DataW.Trod enc Try.prog w base sp held 22 v d p) : ∃ us, UsesAre w v us := by
  obtain ⟨us, hu⟩ := decode_slice Try.underlying22 dUses hok h
  exact ⟨us, uses_are hu⟩
end Go.Proofs.Ytoglgkplddlemaa
