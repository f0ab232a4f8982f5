/- Slices of whole numbers that came in, out of the row's reading. Generic: no program. No condition. -/
import Derived.Test.YtoglgkplddlemaaLibRead
import Derived.Test.YtoglgkplddlemaaLibMore
namespace Go.Cl
open Go.ChangeShapes Go.WideShapes Go.Deep Go.RowKit

/-- A slice of so many numbers of a kind. -/
def NumsAre (k : IntKind) (w : World) (v : Value) (xs : List Int) : Prop :=
  ∃ (oa : Option Addr) (cap : Nat), v = .slice oa xs.length cap ∧ xs.length ≤ cap ∧ cap ≤ maxLen ∧ (oa = none → xs.length = 0 ∧ cap = 0) ∧ ∀ i x, xs[i]? = some x → ∃ a, oa = some a ∧ w.cell? (a.add i) = some (.int k x) ∧ (Lit.int k x).wf = true

theorem nums_are {k : IntKind} {w : World} {v : Value} {xs : List Int} (h : rSlice 1 (rInt k) w [v] xs) : NumsAre k w v xs := by
  rcases h with ⟨rfl, h2⟩ | ⟨a, cap, h1, h2, h3, h4⟩
  · simp at h2
    exact ⟨none, 0, h2, by simp, by simp, fun _ => ⟨rfl, rfl⟩, by simp⟩
  · simp at h1
    refine ⟨some a, cap, h1, h2, h3, (fun h => by cases h), fun i x hx => ⟨a, rfl, ?_⟩⟩
    obtain ⟨c, ⟨rfl, hwf⟩, hl, hat⟩ := h4 i x hx
    exact ⟨by simpa using hat 0 _ rfl, hwf⟩

theorem NumsAre.frame {k : IntKind} {S : Nat → Prop} {w w' : World} {v : Value} {xs : List Int} (h : NumsAre k w v xs) (hc : Chg S w w') (hs : ∀ i, i < w.heap.size → ¬ S i) : NumsAre k w' v xs := by
  obtain ⟨oa, cap, h1, h2, h3, h4, h5⟩ := h
  exact ⟨oa, cap, h1, h2, h3, h4, fun i x hx => by obtain ⟨a, ha, hc1, hw⟩ := h5 i x hx; exact ⟨a, ha, cell_frame hc hs hc1, hw⟩⟩

theorem open_nums {k : IntKind} {P : Program} {t e : TypeId} (ht : P.underlying t = some (.slice e)) (he : P.underlying e = some (.int k)) (hn : P.cellsOf e = 1) {H : Type} {enc : TypeId × Value → H} {w : World} {b0 base : Nat} {sp : Nat → Bool} {held : Bool} {v : Value} {d : DataW H} {p : List MemPlace}
    (hok : Value.okWide P w .any b0 t v) (h : DataW.Trod enc P w base sp held t v d p) : ∃ us, NumsAre k w v us := by
  obtain ⟨us, hu⟩ := decode_slice ht (dSlice (R := rInt k) ht hn (dInt he)) hok h
  exact ⟨us, nums_are hu⟩

/-- A slice of things that lie in so many cells each. -/
def ThingsAre {α : Type} (n : Nat) (R : World → List Value → α → Prop) (w : World) (v : Value) (xs : List α) : Prop :=
  ∃ (oa : Option Addr) (cap : Nat), v = .slice oa xs.length cap ∧ xs.length ≤ cap ∧ cap ≤ maxLen ∧ (oa = none → xs.length = 0 ∧ cap = 0) ∧ ∀ i x, xs[i]? = some x → ∃ a c, oa = some a ∧ R w c x ∧ c.length = n ∧ ∀ j u, c[j]? = some u → w.cell? (a.add (i * n + j)) = some u

theorem things_are {α : Type} {n : Nat} {R : Rd α} {w : World} {v : Value} {xs : List α} (h : rSlice n R w [v] xs) : ThingsAre n R w v xs := by
  rcases h with ⟨rfl, h2⟩ | ⟨a, cap, h1, h2, h3, h4⟩
  · simp at h2
    exact ⟨none, 0, h2, by simp, by simp, fun _ => ⟨rfl, rfl⟩, by simp⟩
  · simp at h1
    refine ⟨some a, cap, h1, h2, h3, (fun h => by cases h), fun i x hx => ?_⟩
    obtain ⟨c, hR, hl, hat⟩ := h4 i x hx
    exact ⟨a, c, rfl, hR, hl, hat⟩

/-- Where things lie, written out. -/
theorem ThingsAre.at {α : Type} {n : Nat} {R : World → List Value → α → Prop} {w : World} {oa : Option Addr} {cap : Nat} {xs : List α} (hn : 0 < n) (h : ThingsAre n R w (.slice oa xs.length cap) xs) {i : Nat} {x : α} (hx : xs[i]? = some x) :
    ∃ g o c, oa = some ⟨g, o, none⟩ ∧ R w c x ∧ c.length = n ∧ ∀ j u, c[j]? = some u → w.cell? ⟨g, o + i * n + j, none⟩ = some u := by
  obtain ⟨oa', cap', hv, _, _, _, h5⟩ := h
  simp only [Value.slice.injEq, true_and] at hv
  obtain ⟨rfl, rfl⟩ := hv
  obtain ⟨a, c, rfl, hR, hl, hat⟩ := h5 i x hx
  have h0 : 0 < xs.length := Nat.lt_of_le_of_lt (Nat.zero_le i) (List.getElem?_eq_some_iff.1 hx).1
  obtain ⟨a', c0, ha', _, hl0, hat0⟩ := h5 0 _ (List.getElem?_eq_getElem h0)
  obtain rfl := Option.some.inj ha'
  have hc := hat0 0 c0[0] (List.getElem?_eq_getElem (by omega))
  obtain ⟨g, o, spot⟩ := a
  have hs : spot = none := by simpa [Addr.add] using World.cell?_spot hc
  subst hs
  refine ⟨g, o, c, rfl, hR, hl, fun j u hu => ?_⟩
  have := hat j u hu
  rw [addr_add] at this
  rw [Nat.add_assoc]
  exact this
end Go.Cl
