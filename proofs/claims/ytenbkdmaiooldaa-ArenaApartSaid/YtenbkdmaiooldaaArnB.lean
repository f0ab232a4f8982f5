/- A law's argument that is a list of words, read. No condition. -/
import Derived.Test.YtenbkdmaiooldaaArnFar
import Derived.Test.YtenbkdmaiooldaaMemI
import Derived.Test.YtenbkdmaiooldaaLibRead
namespace Go.Proofs.Ytenbkdmaiooldaa
open Go.RowKit Go.Cl
set_option linter.unusedVariables false

theorem dWords : Decodes Try.prog 56 (rSlice 1 (rInt .u32)) := dSlice Try.underlying56 (by kernel_rfl) (dInt Try.underlying22)

/-- A slice of words. -/
def WordsAre (w : World) (v : Value) (xs : List Int) : Prop :=
  ∃ (oa : Option Addr) (cap : Nat), v = .slice oa xs.length cap ∧ xs.length ≤ cap ∧ cap ≤ maxLen ∧ ∀ i x, xs[i]? = some x → ∃ a, oa = some a ∧ w.cell? (a.add i) = some (.int .u32 x) ∧ 0 ≤ x ∧ x < 4294967296

theorem words_are {w : World} {v : Value} {xs : List Int} (h : rSlice 1 (rInt .u32) w [v] xs) : WordsAre w v xs := by
  rcases h with ⟨rfl, h2⟩ | ⟨a, cap, h1, h2, h3, h4⟩
  · simp at h2
    exact ⟨none, 0, h2, by simp, by simp, by simp⟩
  · simp at h1
    refine ⟨some a, cap, h1, h2, h3, fun i x hx => ⟨a, rfl, ?_⟩⟩
    obtain ⟨c, ⟨rfl, hwf⟩, hl, hat⟩ := h4 i x hx
    refine ⟨by simpa using hat 0 _ rfl, ?_⟩
    simp [Lit.wf, IntKind.min, IntKind.max, IntKind.signed, IntKind.bits] at hwf
    omega

set_option maxRecDepth 100000 in
theorem open_words {H : Type} {enc : TypeId × Value → H} {w : World} {b0 base : Nat} {sp : Nat → Bool} {held : Bool} {v : Value} {d : DataW H} {p : List MemPlace}
    (hok : Value.okWide Try.prog w .any b0 56 v) (h : DataW.Trod enc Try.prog w base sp held 56 v d p) : ∃ us, WordsAre w v us := by
  obtain ⟨us, hu⟩ := decode_slice Try.underlying56 dWords hok h
  exact ⟨us, words_are hu⟩

/-- f with so many pages cleared. -/
def cleared (f : Nat → Int) (from_ k x : Nat) : Int := if from_ * 4096 ≤ x ∧ x < (from_ + k) * 4096 then 0 else f x

theorem cleared_none (f : Nat → Int) (from_ : Nat) : cleared f from_ 0 = f := by
  funext x
  unfold cleared
  rw [if_neg (by omega)]

set_option maxRecDepth 100000 in
theorem cleared_next (f : Nat → Int) (from_ i : Nat) : put (cleared f from_ i) (from_ * 4096 + i * 4096) 4096 (fun _ => 0) = cleared f from_ (i + 1) := by
  funext x
  unfold put cleared
  by_cases h1 : from_ * 4096 + i * 4096 ≤ x ∧ x < from_ * 4096 + i * 4096 + 4096
  · rw [if_pos h1, if_pos (by omega)]
  · rw [if_neg h1]
    by_cases h2 : from_ * 4096 ≤ x ∧ x < (from_ + i) * 4096
    · rw [if_pos h2, if_pos (by omega)]
    · rw [if_neg h2, if_neg (by omega)]
end Go.Proofs.Ytenbkdmaiooldaa
