/- Loops over an iterator that makes things of its own: what a round may turn is told by T. Generic: no program. No condition. -/
import Derived.Test.YtoglgkplddlemaaLibSeq
import Derived.RangeFuncBox
import Derived.RangeFuncCalls
namespace Go.Cl
open Go.RowKit
set_option linter.unusedVariables false

/-- What a round keeps: all cells and walks but those that T tells of; and T tells of nothing older than it did. -/
structure KeepT (T : World → Nat → Prop) (A B : World) : Prop where
  size : A.heap.size ≤ B.heap.size
  same : ∀ (i : Nat) (o : Obj), A.heap[i]? = some o → (o.isCells = true ∨ o.isWalk = true) → ¬ T A i → B.heap[i]? = some o
  turn : ∀ i, i < A.heap.size → T B i → T A i
theorem KeepT.trans {T : World → Nat → Prop} {A B C : World} (h : KeepT T A B) (k : KeepT T B C) : KeepT T A C :=
  ⟨Nat.le_trans h.size k.size, fun i o hi ho hn => k.same i o (h.same i o hi ho hn) ho fun ht => hn (h.turn i (Array.getElem?_eq_some_iff.1 hi).1 ht), fun i hi ht => h.turn i hi (k.turn i (Nat.lt_of_lt_of_le hi h.size) ht)⟩
theorem KeepT.cells {T : World → Nat → Prop} {A B : World} (h : KeepT T A B) {i : Nat} {c : Array Value} {t : TypeId} {fr : Nat × Nat} (hb : blk A i = some (.cells c t fr)) (hn : ¬ T A i) : blk B i = some (.cells c t fr) := h.same i _ hb (.inl rfl) hn

/-- What T must be, seen from w on. -/
structure TOk (w : World) (T : World → Nat → Prop) : Prop where
  low : ∀ i, T w i → i < w.heap.size
  still : ∀ {A B : World}, w.heap.size ≤ A.heap.size → Chg (fun _ => False) A B → ∀ i, T B i → T A i
  book1 : ∀ (A : World) (l : Nat) (o o' : Obj), w.heap.size ≤ l → A.heap[l]? = some o → o.isCells = false → o.isWalk = false → ∀ i, T (A.putObj l o') i → T A i
theorem TOk.below {w W : World} {T : World → Nat → Prop} (h : TOk w T) (hc : Chg (fun _ => False) w W) {i : Nat} (ht : T W i) : i < w.heap.size := h.low i (h.still (Nat.le_refl _) hc i ht)
theorem TOk.later {w W : World} {T : World → Nat → Prop} (h : TOk w T) (hc : Chg (fun _ => False) w W) : TOk W T :=
  ⟨fun i hi => Nat.lt_of_lt_of_le (h.below hc hi) hc.size, fun ha hb => h.still (Nat.le_trans hc.size ha) hb, fun A l o o' hl => h.book1 A l o o' (Nat.le_trans hc.size hl)⟩
theorem TOk.quiet {w A B : World} {T : World → Nat → Prop} (h : TOk w T) (ha : w.heap.size ≤ A.heap.size) (hc : Chg (fun _ => False) A B) : KeepT T A B :=
  ⟨hc.size, fun i o hi _ _ => (hc.block i (Array.getElem?_eq_some_iff.1 hi).1 id).trans hi, fun i _ ht => h.still ha hc i ht⟩
theorem TOk.book {w : World} {T : World → Nat → Prop} (h : TOk w T) (W : World) (l : Nat) (o o' : Obj) (hl : w.heap.size ≤ l) (ho : W.heap[l]? = some o) (h1 : o.isCells = false) (h2 : o.isWalk = false) : KeepT T W (W.putObj l o') := by
  have hlt := (Array.getElem?_eq_some_iff.1 ho).1
  refine ⟨(grownBy_putObj' W l o').size, fun i x hi hx _ => ?_, fun i _ ht => h.book1 W l o o' hl ho h1 h2 i ht⟩
  by_cases e : i = l
  · subst e
    rw [ho] at hi
    cases hi
    rcases hx with hx | hx
    · rw [h1] at hx; cases hx
    · rw [h2] at hx; cases hx
  · exact (World.putObj_heap_other e).trans hi

/-- A round that turns what T tells of, and nothing else. -/
theorem keepT_of_chg {T : World → Nat → Prop} {S : Nat → Prop} {A B : World} (hc : Chg S A B) (hs : ∀ i, i < A.heap.size → S i → T A i) (ht : ∀ i, i < A.heap.size → T B i → T A i) : KeepT T A B :=
  ⟨hc.size, fun i o hi _ hn => (hc.block i (Array.getElem?_eq_some_iff.1 hi).1 fun h => hn (hs i (Array.getElem?_eq_some_iff.1 hi).1 h)).trans hi, ht⟩

/-- T as a set that is fixed. -/
theorem tOk_fixed {w : World} {S : Nat → Prop} (h : ∀ i, S i → i < w.heap.size) : TOk w (fun _ i => S i) := ⟨h, fun _ _ _ h => h, fun _ _ _ _ _ _ _ _ _ h => h⟩

theorem grown_of_chg' {w w' : World} (h : Chg (fun _ => False) w w') : w.grownBy w' none := ⟨h.os, h.tape, h.output, h.size, fun k hk _ => h.block k hk id⟩
theorem abides_chg' {β : Type} {B : Nat} {J : β → World → Prop} (h : AbidesFrom B J) {s : β} {w w' : World} (hs : J s w) (hc : Chg (fun _ => False) w w') : J s w' := h s w w' none hs (grown_of_chg' hc) (fun r e => by cases e)

/-- A row that T does not tell of stays. -/
theorem row_keepT {T : World → Nat → Prop} {A B : World} (h : KeepT T A B) {base size n : Nat} {e : TypeId} {v : Value} {xs : List Value} (hr : A.ownsRow base e size v n xs) (hn : ∀ g, v.ownBlock = some g → ¬ T A g) : B.ownsRow base e size v n xs := by
  obtain ⟨h1, h2 | ⟨g, cap, cur, hv, hb, hh, hc⟩⟩ := hr
  · exact ⟨h1, .inl h2⟩
  · exact ⟨h1, .inr ⟨g, cap, cur, hv, hb, h.same g _ hh (.inl rfl) (hn g (by rw [hv]; rfl)), hc⟩⟩
theorem attach_at {α : Type} {L : List α} {i : Nat} {x : {e : α // e ∈ L}} (h : L.attach[i]? = some x) : L[i]? = some x.1 := by
  have h2 : (L.attach.map (·.1))[i]? = some x.1 := by rw [List.getElem?_map, h]; rfl
  rwa [List.attach_map_subtype_val] at h2
end Go.Cl
