/- Readings of arguments: numbers, bools, strings, structs, slices, put together; each follows from the row's own reading. No condition. -/
import Derived.Test.YtoglgkplddlemaaLibMaps
import Derived.Deep.Slices
import Derived.ChangeSame
import Derived.OpenShut
namespace Go.Cl
open Go.ChangeShapes Go.WideShapes Go.Deep Go.RowKit

theorem exists_list {α : Type} (n : Nat) {p : Nat → α → Prop} (h : ∀ i, i < n → ∃ x, p i x) : ∃ l : List α, l.length = n ∧ ∀ i x, l[i]? = some x → p i x := by
  induction n with
  | zero => exact ⟨[], rfl, by simp⟩
  | succ n ih =>
    obtain ⟨l, h1, h2⟩ := ih (fun i hi => h i (by omega))
    obtain ⟨x, hx⟩ := h n (by omega)
    refine ⟨l ++ [x], by simp [h1], fun i y hy => ?_⟩
    rcases Nat.lt_trichotomy i n with hlt | rfl | hgt
    · rw [List.getElem?_append_left (by omega)] at hy
      exact h2 i y hy
    · rw [List.getElem?_append_right (by omega)] at hy
      simp [h1] at hy
      exact hy ▸ hx
    · rw [List.getElem?_eq_none (by simp [h1]; omega)] at hy
      cases hy

/-- How so many cells read as a thing. -/
abbrev Rd (α : Type) := World → List Value → α → Prop

/-- What the row's reading reads at type t, R reads. -/
def Decodes {α : Type} (P : Program) (t : TypeId) (R : Rd α) : Prop :=
  ∀ {H : Type} {enc : TypeId × Value → H} {w : World} {base : Nat} {sp : Nat → Bool} {held : Bool} {fuel : Nat} {cs : List Value} {x : DataW H × List MemPlace}, DataW.trod enc P w base sp held fuel t cs = some x → ∃ y, R w cs y

def rInt (k : IntKind) : Rd Int := fun _ cs n => cs = [.int k n] ∧ (Lit.int k n).wf = true
def rBool : Rd Bool := fun _ cs b => cs = [.bool b]
def rStr : Rd ByteArray := fun _ cs s => cs = [.string s] ∧ s.size ≤ maxLen
def rSlice {α : Type} (n : Nat) (R : Rd α) : Rd (List α) := fun w cs xs =>
  (xs = [] ∧ cs = [.slice none 0 0]) ∨ ∃ (a : Addr) (cap : Nat), cs = [.slice (some a) xs.length cap] ∧ xs.length ≤ cap ∧ cap ≤ maxLen ∧
    ∀ i x, xs[i]? = some x → ∃ c, R w c x ∧ c.length = n ∧ ∀ j u, c[j]? = some u → w.cell? (a.add (i * n + j)) = some u

theorem dInt {P : Program} {t : TypeId} {k : IntKind} (ht : P.underlying t = some (.int k)) : Decodes P t (rInt k) := fun h => by
  obtain ⟨n, h1, _, h2⟩ := DataW.trod_int ht h
  exact ⟨n, h1, h2⟩
theorem dBool {P : Program} {t : TypeId} (ht : P.underlying t = some .bool) : Decodes P t rBool := fun h => by
  obtain ⟨n, h1, _⟩ := DataW.trod_bool ht h
  exact ⟨n, h1⟩
theorem dStr {P : Program} {t : TypeId} (ht : P.underlying t = some .string) : Decodes P t rStr := fun h => by
  obtain ⟨n, h1, _, h2⟩ := DataW.trod_string ht h
  exact ⟨n, h1, h2⟩
theorem dSlice {α : Type} {P : Program} {t e : TypeId} {n : Nat} {R : Rd α} (ht : P.underlying t = some (.slice e)) (hn : P.cellsOf e = n) (hR : Decodes P e R) : Decodes P t (rSlice n R) := fun {H enc w base sp held fuel cs x} h => by
  rcases open_slice ht h with ⟨hcs, _⟩ | ⟨a, len, cap, m, n', D, Pl, hcs, _, hl, hm, hmm, _, hi⟩
  · exact ⟨[], .inl ⟨rfl, hcs⟩⟩
  · have hlm : len ≤ m := by rw [hmm]; split <;> omega
    obtain ⟨l, h1, h2⟩ := exists_list len (p := fun i x => ∃ c, R w c x ∧ c.length = n ∧ ∀ j u, c[j]? = some u → w.cell? (a.add (i * n + j)) = some u) fun i hlt => by
      obtain ⟨c, hc, ht'⟩ := hi i (by omega)
      obtain ⟨y, hy⟩ := hR ht'
      obtain ⟨_, hcl, hat⟩ := World.cells?_some hc
      rw [hn] at hcl hat
      refine ⟨y, c, hy, hcl, fun j u hu => ?_⟩
      have hj : j < n := by rw [← hcl]; exact (List.getElem?_eq_some_iff.1 hu).1
      rw [← hu, ← hat j hj]
      rw [Go.Deep.add_add]
    exact ⟨l, .inr ⟨a, cap, by rw [h1]; exact hcs, by omega, hm, h2⟩⟩

def rStruct1 {α0 : Type} (n0 : Nat) (R0 : Rd α0) : Rd (α0) := fun w cs x => cs.length = 0 + n0 ∧ R0 w ((cs.drop (0)).take n0) x
theorem dStruct1 {α0 : Type} {P : Program} {t : TypeId} {f0 : Field} {n0 : Nat} {R0 : Rd α0} (ht : P.underlying t = some (.struct #[f0])) (hC : P.cellsOf t = 0 + n0) (o0 : f0.offset = 0 ∧ P.cellsOf f0.type = n0) (h0 : Decodes P f0.type R0) : Decodes P t (rStruct1 n0 R0) := fun {H enc w base sp held fuel cs x} h => by
  obtain ⟨xs, n, _, _, hlen, hxl, hg⟩ := DataW.trod_struct ht h
  have g0 := hg 0 f0 rfl
  rw [o0.1, o0.2] at g0
  rw [List.getElem?_eq_getElem (show 0 < xs.length by rw [hxl]; simp)] at g0
  obtain ⟨y0, z0⟩ := h0 g0
  exact ⟨y0, hlen.trans hC, z0⟩
def rStruct2 {α0 α1 : Type} (n0 n1 : Nat) (R0 : Rd α0) (R1 : Rd α1) : Rd (α0 × α1) := fun w cs x => cs.length = 0 + n0 + n1 ∧ R0 w ((cs.drop (0)).take n0) x.1 ∧ R1 w ((cs.drop (0 + n0)).take n1) x.2
theorem dStruct2 {α0 α1 : Type} {P : Program} {t : TypeId} {f0 f1 : Field} {n0 n1 : Nat} {R0 : Rd α0} {R1 : Rd α1} (ht : P.underlying t = some (.struct #[f0, f1])) (hC : P.cellsOf t = 0 + n0 + n1) (o0 : f0.offset = 0 ∧ P.cellsOf f0.type = n0) (o1 : f1.offset = 0 + n0 ∧ P.cellsOf f1.type = n1) (h0 : Decodes P f0.type R0) (h1 : Decodes P f1.type R1) : Decodes P t (rStruct2 n0 n1 R0 R1) := fun {H enc w base sp held fuel cs x} h => by
  obtain ⟨xs, n, _, _, hlen, hxl, hg⟩ := DataW.trod_struct ht h
  have g0 := hg 0 f0 rfl
  rw [o0.1, o0.2] at g0
  rw [List.getElem?_eq_getElem (show 0 < xs.length by rw [hxl]; simp)] at g0
  obtain ⟨y0, z0⟩ := h0 g0
  have g1 := hg 1 f1 rfl
  rw [o1.1, o1.2] at g1
  rw [List.getElem?_eq_getElem (show 1 < xs.length by rw [hxl]; simp)] at g1
  obtain ⟨y1, z1⟩ := h1 g1
  exact ⟨(y0, y1), hlen.trans hC, z0, z1⟩
def rStruct3 {α0 α1 α2 : Type} (n0 n1 n2 : Nat) (R0 : Rd α0) (R1 : Rd α1) (R2 : Rd α2) : Rd (α0 × α1 × α2) := fun w cs x => cs.length = 0 + n0 + n1 + n2 ∧ R0 w ((cs.drop (0)).take n0) x.1 ∧ R1 w ((cs.drop (0 + n0)).take n1) x.2.1 ∧ R2 w ((cs.drop (0 + n0 + n1)).take n2) x.2.2
theorem dStruct3 {α0 α1 α2 : Type} {P : Program} {t : TypeId} {f0 f1 f2 : Field} {n0 n1 n2 : Nat} {R0 : Rd α0} {R1 : Rd α1} {R2 : Rd α2} (ht : P.underlying t = some (.struct #[f0, f1, f2])) (hC : P.cellsOf t = 0 + n0 + n1 + n2) (o0 : f0.offset = 0 ∧ P.cellsOf f0.type = n0) (o1 : f1.offset = 0 + n0 ∧ P.cellsOf f1.type = n1) (o2 : f2.offset = 0 + n0 + n1 ∧ P.cellsOf f2.type = n2) (h0 : Decodes P f0.type R0) (h1 : Decodes P f1.type R1) (h2 : Decodes P f2.type R2) : Decodes P t (rStruct3 n0 n1 n2 R0 R1 R2) := fun {H enc w base sp held fuel cs x} h => by
  obtain ⟨xs, n, _, _, hlen, hxl, hg⟩ := DataW.trod_struct ht h
  have g0 := hg 0 f0 rfl
  rw [o0.1, o0.2] at g0
  rw [List.getElem?_eq_getElem (show 0 < xs.length by rw [hxl]; simp)] at g0
  obtain ⟨y0, z0⟩ := h0 g0
  have g1 := hg 1 f1 rfl
  rw [o1.1, o1.2] at g1
  rw [List.getElem?_eq_getElem (show 1 < xs.length by rw [hxl]; simp)] at g1
  obtain ⟨y1, z1⟩ := h1 g1
  have g2 := hg 2 f2 rfl
  rw [o2.1, o2.2] at g2
  rw [List.getElem?_eq_getElem (show 2 < xs.length by rw [hxl]; simp)] at g2
  obtain ⟨y2, z2⟩ := h2 g2
  exact ⟨(y0, y1, y2), hlen.trans hC, z0, z1, z2⟩
def rStruct4 {α0 α1 α2 α3 : Type} (n0 n1 n2 n3 : Nat) (R0 : Rd α0) (R1 : Rd α1) (R2 : Rd α2) (R3 : Rd α3) : Rd (α0 × α1 × α2 × α3) := fun w cs x => cs.length = 0 + n0 + n1 + n2 + n3 ∧ R0 w ((cs.drop (0)).take n0) x.1 ∧ R1 w ((cs.drop (0 + n0)).take n1) x.2.1 ∧ R2 w ((cs.drop (0 + n0 + n1)).take n2) x.2.2.1 ∧ R3 w ((cs.drop (0 + n0 + n1 + n2)).take n3) x.2.2.2
theorem dStruct4 {α0 α1 α2 α3 : Type} {P : Program} {t : TypeId} {f0 f1 f2 f3 : Field} {n0 n1 n2 n3 : Nat} {R0 : Rd α0} {R1 : Rd α1} {R2 : Rd α2} {R3 : Rd α3} (ht : P.underlying t = some (.struct #[f0, f1, f2, f3])) (hC : P.cellsOf t = 0 + n0 + n1 + n2 + n3) (o0 : f0.offset = 0 ∧ P.cellsOf f0.type = n0) (o1 : f1.offset = 0 + n0 ∧ P.cellsOf f1.type = n1) (o2 : f2.offset = 0 + n0 + n1 ∧ P.cellsOf f2.type = n2) (o3 : f3.offset = 0 + n0 + n1 + n2 ∧ P.cellsOf f3.type = n3) (h0 : Decodes P f0.type R0) (h1 : Decodes P f1.type R1) (h2 : Decodes P f2.type R2) (h3 : Decodes P f3.type R3) : Decodes P t (rStruct4 n0 n1 n2 n3 R0 R1 R2 R3) := fun {H enc w base sp held fuel cs x} h => by
  obtain ⟨xs, n, _, _, hlen, hxl, hg⟩ := DataW.trod_struct ht h
  have g0 := hg 0 f0 rfl
  rw [o0.1, o0.2] at g0
  rw [List.getElem?_eq_getElem (show 0 < xs.length by rw [hxl]; simp)] at g0
  obtain ⟨y0, z0⟩ := h0 g0
  have g1 := hg 1 f1 rfl
  rw [o1.1, o1.2] at g1
  rw [List.getElem?_eq_getElem (show 1 < xs.length by rw [hxl]; simp)] at g1
  obtain ⟨y1, z1⟩ := h1 g1
  have g2 := hg 2 f2 rfl
  rw [o2.1, o2.2] at g2
  rw [List.getElem?_eq_getElem (show 2 < xs.length by rw [hxl]; simp)] at g2
  obtain ⟨y2, z2⟩ := h2 g2
  have g3 := hg 3 f3 rfl
  rw [o3.1, o3.2] at g3
  rw [List.getElem?_eq_getElem (show 3 < xs.length by rw [hxl]; simp)] at g3
  obtain ⟨y3, z3⟩ := h3 g3
  exact ⟨(y0, y1, y2, y3), hlen.trans hC, z0, z1, z2, z3⟩
def rStruct5 {α0 α1 α2 α3 α4 : Type} (n0 n1 n2 n3 n4 : Nat) (R0 : Rd α0) (R1 : Rd α1) (R2 : Rd α2) (R3 : Rd α3) (R4 : Rd α4) : Rd (α0 × α1 × α2 × α3 × α4) := fun w cs x => cs.length = 0 + n0 + n1 + n2 + n3 + n4 ∧ R0 w ((cs.drop (0)).take n0) x.1 ∧ R1 w ((cs.drop (0 + n0)).take n1) x.2.1 ∧ R2 w ((cs.drop (0 + n0 + n1)).take n2) x.2.2.1 ∧ R3 w ((cs.drop (0 + n0 + n1 + n2)).take n3) x.2.2.2.1 ∧ R4 w ((cs.drop (0 + n0 + n1 + n2 + n3)).take n4) x.2.2.2.2
theorem dStruct5 {α0 α1 α2 α3 α4 : Type} {P : Program} {t : TypeId} {f0 f1 f2 f3 f4 : Field} {n0 n1 n2 n3 n4 : Nat} {R0 : Rd α0} {R1 : Rd α1} {R2 : Rd α2} {R3 : Rd α3} {R4 : Rd α4} (ht : P.underlying t = some (.struct #[f0, f1, f2, f3, f4])) (hC : P.cellsOf t = 0 + n0 + n1 + n2 + n3 + n4) (o0 : f0.offset = 0 ∧ P.cellsOf f0.type = n0) (o1 : f1.offset = 0 + n0 ∧ P.cellsOf f1.type = n1) (o2 : f2.offset = 0 + n0 + n1 ∧ P.cellsOf f2.type = n2) (o3 : f3.offset = 0 + n0 + n1 + n2 ∧ P.cellsOf f3.type = n3) (o4 : f4.offset = 0 + n0 + n1 + n2 + n3 ∧ P.cellsOf f4.type = n4) (h0 : Decodes P f0.type R0) (h1 : Decodes P f1.type R1) (h2 : Decodes P f2.type R2) (h3 : Decodes P f3.type R3) (h4 : Decodes P f4.type R4) : Decodes P t (rStruct5 n0 n1 n2 n3 n4 R0 R1 R2 R3 R4) := fun {H enc w base sp held fuel cs x} h => by
  obtain ⟨xs, n, _, _, hlen, hxl, hg⟩ := DataW.trod_struct ht h
  have g0 := hg 0 f0 rfl
  rw [o0.1, o0.2] at g0
  rw [List.getElem?_eq_getElem (show 0 < xs.length by rw [hxl]; simp)] at g0
  obtain ⟨y0, z0⟩ := h0 g0
  have g1 := hg 1 f1 rfl
  rw [o1.1, o1.2] at g1
  rw [List.getElem?_eq_getElem (show 1 < xs.length by rw [hxl]; simp)] at g1
  obtain ⟨y1, z1⟩ := h1 g1
  have g2 := hg 2 f2 rfl
  rw [o2.1, o2.2] at g2
  rw [List.getElem?_eq_getElem (show 2 < xs.length by rw [hxl]; simp)] at g2
  obtain ⟨y2, z2⟩ := h2 g2
  have g3 := hg 3 f3 rfl
  rw [o3.1, o3.2] at g3
  rw [List.getElem?_eq_getElem (show 3 < xs.length by rw [hxl]; simp)] at g3
  obtain ⟨y3, z3⟩ := h3 g3
  have g4 := hg 4 f4 rfl
  rw [o4.1, o4.2] at g4
  rw [List.getElem?_eq_getElem (show 4 < xs.length by rw [hxl]; simp)] at g4
  obtain ⟨y4, z4⟩ := h4 g4
  exact ⟨(y0, y1, y2, y3, y4), hlen.trans hC, z0, z1, z2, z3, z4⟩
def rStruct6 {α0 α1 α2 α3 α4 α5 : Type} (n0 n1 n2 n3 n4 n5 : Nat) (R0 : Rd α0) (R1 : Rd α1) (R2 : Rd α2) (R3 : Rd α3) (R4 : Rd α4) (R5 : Rd α5) : Rd (α0 × α1 × α2 × α3 × α4 × α5) := fun w cs x => cs.length = 0 + n0 + n1 + n2 + n3 + n4 + n5 ∧ R0 w ((cs.drop (0)).take n0) x.1 ∧ R1 w ((cs.drop (0 + n0)).take n1) x.2.1 ∧ R2 w ((cs.drop (0 + n0 + n1)).take n2) x.2.2.1 ∧ R3 w ((cs.drop (0 + n0 + n1 + n2)).take n3) x.2.2.2.1 ∧ R4 w ((cs.drop (0 + n0 + n1 + n2 + n3)).take n4) x.2.2.2.2.1 ∧ R5 w ((cs.drop (0 + n0 + n1 + n2 + n3 + n4)).take n5) x.2.2.2.2.2
theorem dStruct6 {α0 α1 α2 α3 α4 α5 : Type} {P : Program} {t : TypeId} {f0 f1 f2 f3 f4 f5 : Field} {n0 n1 n2 n3 n4 n5 : Nat} {R0 : Rd α0} {R1 : Rd α1} {R2 : Rd α2} {R3 : Rd α3} {R4 : Rd α4} {R5 : Rd α5} (ht : P.underlying t = some (.struct #[f0, f1, f2, f3, f4, f5])) (hC : P.cellsOf t = 0 + n0 + n1 + n2 + n3 + n4 + n5) (o0 : f0.offset = 0 ∧ P.cellsOf f0.type = n0) (o1 : f1.offset = 0 + n0 ∧ P.cellsOf f1.type = n1) (o2 : f2.offset = 0 + n0 + n1 ∧ P.cellsOf f2.type = n2) (o3 : f3.offset = 0 + n0 + n1 + n2 ∧ P.cellsOf f3.type = n3) (o4 : f4.offset = 0 + n0 + n1 + n2 + n3 ∧ P.cellsOf f4.type = n4) (o5 : f5.offset = 0 + n0 + n1 + n2 + n3 + n4 ∧ P.cellsOf f5.type = n5) (h0 : Decodes P f0.type R0) (h1 : Decodes P f1.type R1) (h2 : Decodes P f2.type R2) (h3 : Decodes P f3.type R3) (h4 : Decodes P f4.type R4) (h5 : Decodes P f5.type R5) : Decodes P t (rStruct6 n0 n1 n2 n3 n4 n5 R0 R1 R2 R3 R4 R5) := fun {H enc w base sp held fuel cs x} h => by
  obtain ⟨xs, n, _, _, hlen, hxl, hg⟩ := DataW.trod_struct ht h
  have g0 := hg 0 f0 rfl
  rw [o0.1, o0.2] at g0
  rw [List.getElem?_eq_getElem (show 0 < xs.length by rw [hxl]; simp)] at g0
  obtain ⟨y0, z0⟩ := h0 g0
  have g1 := hg 1 f1 rfl
  rw [o1.1, o1.2] at g1
  rw [List.getElem?_eq_getElem (show 1 < xs.length by rw [hxl]; simp)] at g1
  obtain ⟨y1, z1⟩ := h1 g1
  have g2 := hg 2 f2 rfl
  rw [o2.1, o2.2] at g2
  rw [List.getElem?_eq_getElem (show 2 < xs.length by rw [hxl]; simp)] at g2
  obtain ⟨y2, z2⟩ := h2 g2
  have g3 := hg 3 f3 rfl
  rw [o3.1, o3.2] at g3
  rw [List.getElem?_eq_getElem (show 3 < xs.length by rw [hxl]; simp)] at g3
  obtain ⟨y3, z3⟩ := h3 g3
  have g4 := hg 4 f4 rfl
  rw [o4.1, o4.2] at g4
  rw [List.getElem?_eq_getElem (show 4 < xs.length by rw [hxl]; simp)] at g4
  obtain ⟨y4, z4⟩ := h4 g4
  have g5 := hg 5 f5 rfl
  rw [o5.1, o5.2] at g5
  rw [List.getElem?_eq_getElem (show 5 < xs.length by rw [hxl]; simp)] at g5
  obtain ⟨y5, z5⟩ := h5 g5
  exact ⟨(y0, y1, y2, y3, y4, y5), hlen.trans hC, z0, z1, z2, z3, z4, z5⟩
def rStruct7 {α0 α1 α2 α3 α4 α5 α6 : Type} (n0 n1 n2 n3 n4 n5 n6 : Nat) (R0 : Rd α0) (R1 : Rd α1) (R2 : Rd α2) (R3 : Rd α3) (R4 : Rd α4) (R5 : Rd α5) (R6 : Rd α6) : Rd (α0 × α1 × α2 × α3 × α4 × α5 × α6) := fun w cs x => cs.length = 0 + n0 + n1 + n2 + n3 + n4 + n5 + n6 ∧ R0 w ((cs.drop (0)).take n0) x.1 ∧ R1 w ((cs.drop (0 + n0)).take n1) x.2.1 ∧ R2 w ((cs.drop (0 + n0 + n1)).take n2) x.2.2.1 ∧ R3 w ((cs.drop (0 + n0 + n1 + n2)).take n3) x.2.2.2.1 ∧ R4 w ((cs.drop (0 + n0 + n1 + n2 + n3)).take n4) x.2.2.2.2.1 ∧ R5 w ((cs.drop (0 + n0 + n1 + n2 + n3 + n4)).take n5) x.2.2.2.2.2.1 ∧ R6 w ((cs.drop (0 + n0 + n1 + n2 + n3 + n4 + n5)).take n6) x.2.2.2.2.2.2
theorem dStruct7 {α0 α1 α2 α3 α4 α5 α6 : Type} {P : Program} {t : TypeId} {f0 f1 f2 f3 f4 f5 f6 : Field} {n0 n1 n2 n3 n4 n5 n6 : Nat} {R0 : Rd α0} {R1 : Rd α1} {R2 : Rd α2} {R3 : Rd α3} {R4 : Rd α4} {R5 : Rd α5} {R6 : Rd α6} (ht : P.underlying t = some (.struct #[f0, f1, f2, f3, f4, f5, f6])) (hC : P.cellsOf t = 0 + n0 + n1 + n2 + n3 + n4 + n5 + n6) (o0 : f0.offset = 0 ∧ P.cellsOf f0.type = n0) (o1 : f1.offset = 0 + n0 ∧ P.cellsOf f1.type = n1) (o2 : f2.offset = 0 + n0 + n1 ∧ P.cellsOf f2.type = n2) (o3 : f3.offset = 0 + n0 + n1 + n2 ∧ P.cellsOf f3.type = n3) (o4 : f4.offset = 0 + n0 + n1 + n2 + n3 ∧ P.cellsOf f4.type = n4) (o5 : f5.offset = 0 + n0 + n1 + n2 + n3 + n4 ∧ P.cellsOf f5.type = n5) (o6 : f6.offset = 0 + n0 + n1 + n2 + n3 + n4 + n5 ∧ P.cellsOf f6.type = n6) (h0 : Decodes P f0.type R0) (h1 : Decodes P f1.type R1) (h2 : Decodes P f2.type R2) (h3 : Decodes P f3.type R3) (h4 : Decodes P f4.type R4) (h5 : Decodes P f5.type R5) (h6 : Decodes P f6.type R6) : Decodes P t (rStruct7 n0 n1 n2 n3 n4 n5 n6 R0 R1 R2 R3 R4 R5 R6) := fun {H enc w base sp held fuel cs x} h => by
  obtain ⟨xs, n, _, _, hlen, hxl, hg⟩ := DataW.trod_struct ht h
  have g0 := hg 0 f0 rfl
  rw [o0.1, o0.2] at g0
  rw [List.getElem?_eq_getElem (show 0 < xs.length by rw [hxl]; simp)] at g0
  obtain ⟨y0, z0⟩ := h0 g0
  have g1 := hg 1 f1 rfl
  rw [o1.1, o1.2] at g1
  rw [List.getElem?_eq_getElem (show 1 < xs.length by rw [hxl]; simp)] at g1
  obtain ⟨y1, z1⟩ := h1 g1
  have g2 := hg 2 f2 rfl
  rw [o2.1, o2.2] at g2
  rw [List.getElem?_eq_getElem (show 2 < xs.length by rw [hxl]; simp)] at g2
  obtain ⟨y2, z2⟩ := h2 g2
  have g3 := hg 3 f3 rfl
  rw [o3.1, o3.2] at g3
  rw [List.getElem?_eq_getElem (show 3 < xs.length by rw [hxl]; simp)] at g3
  obtain ⟨y3, z3⟩ := h3 g3
  have g4 := hg 4 f4 rfl
  rw [o4.1, o4.2] at g4
  rw [List.getElem?_eq_getElem (show 4 < xs.length by rw [hxl]; simp)] at g4
  obtain ⟨y4, z4⟩ := h4 g4
  have g5 := hg 5 f5 rfl
  rw [o5.1, o5.2] at g5
  rw [List.getElem?_eq_getElem (show 5 < xs.length by rw [hxl]; simp)] at g5
  obtain ⟨y5, z5⟩ := h5 g5
  have g6 := hg 6 f6 rfl
  rw [o6.1, o6.2] at g6
  rw [List.getElem?_eq_getElem (show 6 < xs.length by rw [hxl]; simp)] at g6
  obtain ⟨y6, z6⟩ := h6 g6
  exact ⟨(y0, y1, y2, y3, y4, y5, y6), hlen.trans hC, z0, z1, z2, z3, z4, z5, z6⟩
def rStruct8 {α0 α1 α2 α3 α4 α5 α6 α7 : Type} (n0 n1 n2 n3 n4 n5 n6 n7 : Nat) (R0 : Rd α0) (R1 : Rd α1) (R2 : Rd α2) (R3 : Rd α3) (R4 : Rd α4) (R5 : Rd α5) (R6 : Rd α6) (R7 : Rd α7) : Rd (α0 × α1 × α2 × α3 × α4 × α5 × α6 × α7) := fun w cs x => cs.length = 0 + n0 + n1 + n2 + n3 + n4 + n5 + n6 + n7 ∧ R0 w ((cs.drop (0)).take n0) x.1 ∧ R1 w ((cs.drop (0 + n0)).take n1) x.2.1 ∧ R2 w ((cs.drop (0 + n0 + n1)).take n2) x.2.2.1 ∧ R3 w ((cs.drop (0 + n0 + n1 + n2)).take n3) x.2.2.2.1 ∧ R4 w ((cs.drop (0 + n0 + n1 + n2 + n3)).take n4) x.2.2.2.2.1 ∧ R5 w ((cs.drop (0 + n0 + n1 + n2 + n3 + n4)).take n5) x.2.2.2.2.2.1 ∧ R6 w ((cs.drop (0 + n0 + n1 + n2 + n3 + n4 + n5)).take n6) x.2.2.2.2.2.2.1 ∧ R7 w ((cs.drop (0 + n0 + n1 + n2 + n3 + n4 + n5 + n6)).take n7) x.2.2.2.2.2.2.2
theorem dStruct8 {α0 α1 α2 α3 α4 α5 α6 α7 : Type} {P : Program} {t : TypeId} {f0 f1 f2 f3 f4 f5 f6 f7 : Field} {n0 n1 n2 n3 n4 n5 n6 n7 : Nat} {R0 : Rd α0} {R1 : Rd α1} {R2 : Rd α2} {R3 : Rd α3} {R4 : Rd α4} {R5 : Rd α5} {R6 : Rd α6} {R7 : Rd α7} (ht : P.underlying t = some (.struct #[f0, f1, f2, f3, f4, f5, f6, f7])) (hC : P.cellsOf t = 0 + n0 + n1 + n2 + n3 + n4 + n5 + n6 + n7) (o0 : f0.offset = 0 ∧ P.cellsOf f0.type = n0) (o1 : f1.offset = 0 + n0 ∧ P.cellsOf f1.type = n1) (o2 : f2.offset = 0 + n0 + n1 ∧ P.cellsOf f2.type = n2) (o3 : f3.offset = 0 + n0 + n1 + n2 ∧ P.cellsOf f3.type = n3) (o4 : f4.offset = 0 + n0 + n1 + n2 + n3 ∧ P.cellsOf f4.type = n4) (o5 : f5.offset = 0 + n0 + n1 + n2 + n3 + n4 ∧ P.cellsOf f5.type = n5) (o6 : f6.offset = 0 + n0 + n1 + n2 + n3 + n4 + n5 ∧ P.cellsOf f6.type = n6) (o7 : f7.offset = 0 + n0 + n1 + n2 + n3 + n4 + n5 + n6 ∧ P.cellsOf f7.type = n7) (h0 : Decodes P f0.type R0) (h1 : Decodes P f1.type R1) (h2 : Decodes P f2.type R2) (h3 : Decodes P f3.type R3) (h4 : Decodes P f4.type R4) (h5 : Decodes P f5.type R5) (h6 : Decodes P f6.type R6) (h7 : Decodes P f7.type R7) : Decodes P t (rStruct8 n0 n1 n2 n3 n4 n5 n6 n7 R0 R1 R2 R3 R4 R5 R6 R7) := fun {H enc w base sp held fuel cs x} h => by
  obtain ⟨xs, n, _, _, hlen, hxl, hg⟩ := DataW.trod_struct ht h
  have g0 := hg 0 f0 rfl
  rw [o0.1, o0.2] at g0
  rw [List.getElem?_eq_getElem (show 0 < xs.length by rw [hxl]; simp)] at g0
  obtain ⟨y0, z0⟩ := h0 g0
  have g1 := hg 1 f1 rfl
  rw [o1.1, o1.2] at g1
  rw [List.getElem?_eq_getElem (show 1 < xs.length by rw [hxl]; simp)] at g1
  obtain ⟨y1, z1⟩ := h1 g1
  have g2 := hg 2 f2 rfl
  rw [o2.1, o2.2] at g2
  rw [List.getElem?_eq_getElem (show 2 < xs.length by rw [hxl]; simp)] at g2
  obtain ⟨y2, z2⟩ := h2 g2
  have g3 := hg 3 f3 rfl
  rw [o3.1, o3.2] at g3
  rw [List.getElem?_eq_getElem (show 3 < xs.length by rw [hxl]; simp)] at g3
  obtain ⟨y3, z3⟩ := h3 g3
  have g4 := hg 4 f4 rfl
  rw [o4.1, o4.2] at g4
  rw [List.getElem?_eq_getElem (show 4 < xs.length by rw [hxl]; simp)] at g4
  obtain ⟨y4, z4⟩ := h4 g4
  have g5 := hg 5 f5 rfl
  rw [o5.1, o5.2] at g5
  rw [List.getElem?_eq_getElem (show 5 < xs.length by rw [hxl]; simp)] at g5
  obtain ⟨y5, z5⟩ := h5 g5
  have g6 := hg 6 f6 rfl
  rw [o6.1, o6.2] at g6
  rw [List.getElem?_eq_getElem (show 6 < xs.length by rw [hxl]; simp)] at g6
  obtain ⟨y6, z6⟩ := h6 g6
  have g7 := hg 7 f7 rfl
  rw [o7.1, o7.2] at g7
  rw [List.getElem?_eq_getElem (show 7 < xs.length by rw [hxl]; simp)] at g7
  obtain ⟨y7, z7⟩ := h7 g7
  exact ⟨(y0, y1, y2, y3, y4, y5, y6, y7), hlen.trans hC, z0, z1, z2, z3, z4, z5, z6, z7⟩
def rStruct9 {α0 α1 α2 α3 α4 α5 α6 α7 α8 : Type} (n0 n1 n2 n3 n4 n5 n6 n7 n8 : Nat) (R0 : Rd α0) (R1 : Rd α1) (R2 : Rd α2) (R3 : Rd α3) (R4 : Rd α4) (R5 : Rd α5) (R6 : Rd α6) (R7 : Rd α7) (R8 : Rd α8) : Rd (α0 × α1 × α2 × α3 × α4 × α5 × α6 × α7 × α8) := fun w cs x => cs.length = 0 + n0 + n1 + n2 + n3 + n4 + n5 + n6 + n7 + n8 ∧ R0 w ((cs.drop (0)).take n0) x.1 ∧ R1 w ((cs.drop (0 + n0)).take n1) x.2.1 ∧ R2 w ((cs.drop (0 + n0 + n1)).take n2) x.2.2.1 ∧ R3 w ((cs.drop (0 + n0 + n1 + n2)).take n3) x.2.2.2.1 ∧ R4 w ((cs.drop (0 + n0 + n1 + n2 + n3)).take n4) x.2.2.2.2.1 ∧ R5 w ((cs.drop (0 + n0 + n1 + n2 + n3 + n4)).take n5) x.2.2.2.2.2.1 ∧ R6 w ((cs.drop (0 + n0 + n1 + n2 + n3 + n4 + n5)).take n6) x.2.2.2.2.2.2.1 ∧ R7 w ((cs.drop (0 + n0 + n1 + n2 + n3 + n4 + n5 + n6)).take n7) x.2.2.2.2.2.2.2.1 ∧ R8 w ((cs.drop (0 + n0 + n1 + n2 + n3 + n4 + n5 + n6 + n7)).take n8) x.2.2.2.2.2.2.2.2
theorem dStruct9 {α0 α1 α2 α3 α4 α5 α6 α7 α8 : Type} {P : Program} {t : TypeId} {f0 f1 f2 f3 f4 f5 f6 f7 f8 : Field} {n0 n1 n2 n3 n4 n5 n6 n7 n8 : Nat} {R0 : Rd α0} {R1 : Rd α1} {R2 : Rd α2} {R3 : Rd α3} {R4 : Rd α4} {R5 : Rd α5} {R6 : Rd α6} {R7 : Rd α7} {R8 : Rd α8} (ht : P.underlying t = some (.struct #[f0, f1, f2, f3, f4, f5, f6, f7, f8])) (hC : P.cellsOf t = 0 + n0 + n1 + n2 + n3 + n4 + n5 + n6 + n7 + n8) (o0 : f0.offset = 0 ∧ P.cellsOf f0.type = n0) (o1 : f1.offset = 0 + n0 ∧ P.cellsOf f1.type = n1) (o2 : f2.offset = 0 + n0 + n1 ∧ P.cellsOf f2.type = n2) (o3 : f3.offset = 0 + n0 + n1 + n2 ∧ P.cellsOf f3.type = n3) (o4 : f4.offset = 0 + n0 + n1 + n2 + n3 ∧ P.cellsOf f4.type = n4) (o5 : f5.offset = 0 + n0 + n1 + n2 + n3 + n4 ∧ P.cellsOf f5.type = n5) (o6 : f6.offset = 0 + n0 + n1 + n2 + n3 + n4 + n5 ∧ P.cellsOf f6.type = n6) (o7 : f7.offset = 0 + n0 + n1 + n2 + n3 + n4 + n5 + n6 ∧ P.cellsOf f7.type = n7) (o8 : f8.offset = 0 + n0 + n1 + n2 + n3 + n4 + n5 + n6 + n7 ∧ P.cellsOf f8.type = n8) (h0 : Decodes P f0.type R0) (h1 : Decodes P f1.type R1) (h2 : Decodes P f2.type R2) (h3 : Decodes P f3.type R3) (h4 : Decodes P f4.type R4) (h5 : Decodes P f5.type R5) (h6 : Decodes P f6.type R6) (h7 : Decodes P f7.type R7) (h8 : Decodes P f8.type R8) : Decodes P t (rStruct9 n0 n1 n2 n3 n4 n5 n6 n7 n8 R0 R1 R2 R3 R4 R5 R6 R7 R8) := fun {H enc w base sp held fuel cs x} h => by
  obtain ⟨xs, n, _, _, hlen, hxl, hg⟩ := DataW.trod_struct ht h
  have g0 := hg 0 f0 rfl
  rw [o0.1, o0.2] at g0
  rw [List.getElem?_eq_getElem (show 0 < xs.length by rw [hxl]; simp)] at g0
  obtain ⟨y0, z0⟩ := h0 g0
  have g1 := hg 1 f1 rfl
  rw [o1.1, o1.2] at g1
  rw [List.getElem?_eq_getElem (show 1 < xs.length by rw [hxl]; simp)] at g1
  obtain ⟨y1, z1⟩ := h1 g1
  have g2 := hg 2 f2 rfl
  rw [o2.1, o2.2] at g2
  rw [List.getElem?_eq_getElem (show 2 < xs.length by rw [hxl]; simp)] at g2
  obtain ⟨y2, z2⟩ := h2 g2
  have g3 := hg 3 f3 rfl
  rw [o3.1, o3.2] at g3
  rw [List.getElem?_eq_getElem (show 3 < xs.length by rw [hxl]; simp)] at g3
  obtain ⟨y3, z3⟩ := h3 g3
  have g4 := hg 4 f4 rfl
  rw [o4.1, o4.2] at g4
  rw [List.getElem?_eq_getElem (show 4 < xs.length by rw [hxl]; simp)] at g4
  obtain ⟨y4, z4⟩ := h4 g4
  have g5 := hg 5 f5 rfl
  rw [o5.1, o5.2] at g5
  rw [List.getElem?_eq_getElem (show 5 < xs.length by rw [hxl]; simp)] at g5
  obtain ⟨y5, z5⟩ := h5 g5
  have g6 := hg 6 f6 rfl
  rw [o6.1, o6.2] at g6
  rw [List.getElem?_eq_getElem (show 6 < xs.length by rw [hxl]; simp)] at g6
  obtain ⟨y6, z6⟩ := h6 g6
  have g7 := hg 7 f7 rfl
  rw [o7.1, o7.2] at g7
  rw [List.getElem?_eq_getElem (show 7 < xs.length by rw [hxl]; simp)] at g7
  obtain ⟨y7, z7⟩ := h7 g7
  have g8 := hg 8 f8 rfl
  rw [o8.1, o8.2] at g8
  rw [List.getElem?_eq_getElem (show 8 < xs.length by rw [hxl]; simp)] at g8
  obtain ⟨y8, z8⟩ := h8 g8
  exact ⟨(y0, y1, y2, y3, y4, y5, y6, y7, y8), hlen.trans hC, z0, z1, z2, z3, z4, z5, z6, z7, z8⟩
def rStruct10 {α0 α1 α2 α3 α4 α5 α6 α7 α8 α9 : Type} (n0 n1 n2 n3 n4 n5 n6 n7 n8 n9 : Nat) (R0 : Rd α0) (R1 : Rd α1) (R2 : Rd α2) (R3 : Rd α3) (R4 : Rd α4) (R5 : Rd α5) (R6 : Rd α6) (R7 : Rd α7) (R8 : Rd α8) (R9 : Rd α9) : Rd (α0 × α1 × α2 × α3 × α4 × α5 × α6 × α7 × α8 × α9) := fun w cs x => cs.length = 0 + n0 + n1 + n2 + n3 + n4 + n5 + n6 + n7 + n8 + n9 ∧ R0 w ((cs.drop (0)).take n0) x.1 ∧ R1 w ((cs.drop (0 + n0)).take n1) x.2.1 ∧ R2 w ((cs.drop (0 + n0 + n1)).take n2) x.2.2.1 ∧ R3 w ((cs.drop (0 + n0 + n1 + n2)).take n3) x.2.2.2.1 ∧ R4 w ((cs.drop (0 + n0 + n1 + n2 + n3)).take n4) x.2.2.2.2.1 ∧ R5 w ((cs.drop (0 + n0 + n1 + n2 + n3 + n4)).take n5) x.2.2.2.2.2.1 ∧ R6 w ((cs.drop (0 + n0 + n1 + n2 + n3 + n4 + n5)).take n6) x.2.2.2.2.2.2.1 ∧ R7 w ((cs.drop (0 + n0 + n1 + n2 + n3 + n4 + n5 + n6)).take n7) x.2.2.2.2.2.2.2.1 ∧ R8 w ((cs.drop (0 + n0 + n1 + n2 + n3 + n4 + n5 + n6 + n7)).take n8) x.2.2.2.2.2.2.2.2.1 ∧ R9 w ((cs.drop (0 + n0 + n1 + n2 + n3 + n4 + n5 + n6 + n7 + n8)).take n9) x.2.2.2.2.2.2.2.2.2
theorem dStruct10 {α0 α1 α2 α3 α4 α5 α6 α7 α8 α9 : Type} {P : Program} {t : TypeId} {f0 f1 f2 f3 f4 f5 f6 f7 f8 f9 : Field} {n0 n1 n2 n3 n4 n5 n6 n7 n8 n9 : Nat} {R0 : Rd α0} {R1 : Rd α1} {R2 : Rd α2} {R3 : Rd α3} {R4 : Rd α4} {R5 : Rd α5} {R6 : Rd α6} {R7 : Rd α7} {R8 : Rd α8} {R9 : Rd α9} (ht : P.underlying t = some (.struct #[f0, f1, f2, f3, f4, f5, f6, f7, f8, f9])) (hC : P.cellsOf t = 0 + n0 + n1 + n2 + n3 + n4 + n5 + n6 + n7 + n8 + n9) (o0 : f0.offset = 0 ∧ P.cellsOf f0.type = n0) (o1 : f1.offset = 0 + n0 ∧ P.cellsOf f1.type = n1) (o2 : f2.offset = 0 + n0 + n1 ∧ P.cellsOf f2.type = n2) (o3 : f3.offset = 0 + n0 + n1 + n2 ∧ P.cellsOf f3.type = n3) (o4 : f4.offset = 0 + n0 + n1 + n2 + n3 ∧ P.cellsOf f4.type = n4) (o5 : f5.offset = 0 + n0 + n1 + n2 + n3 + n4 ∧ P.cellsOf f5.type = n5) (o6 : f6.offset = 0 + n0 + n1 + n2 + n3 + n4 + n5 ∧ P.cellsOf f6.type = n6) (o7 : f7.offset = 0 + n0 + n1 + n2 + n3 + n4 + n5 + n6 ∧ P.cellsOf f7.type = n7) (o8 : f8.offset = 0 + n0 + n1 + n2 + n3 + n4 + n5 + n6 + n7 ∧ P.cellsOf f8.type = n8) (o9 : f9.offset = 0 + n0 + n1 + n2 + n3 + n4 + n5 + n6 + n7 + n8 ∧ P.cellsOf f9.type = n9) (h0 : Decodes P f0.type R0) (h1 : Decodes P f1.type R1) (h2 : Decodes P f2.type R2) (h3 : Decodes P f3.type R3) (h4 : Decodes P f4.type R4) (h5 : Decodes P f5.type R5) (h6 : Decodes P f6.type R6) (h7 : Decodes P f7.type R7) (h8 : Decodes P f8.type R8) (h9 : Decodes P f9.type R9) : Decodes P t (rStruct10 n0 n1 n2 n3 n4 n5 n6 n7 n8 n9 R0 R1 R2 R3 R4 R5 R6 R7 R8 R9) := fun {H enc w base sp held fuel cs x} h => by
  obtain ⟨xs, n, _, _, hlen, hxl, hg⟩ := DataW.trod_struct ht h
  have g0 := hg 0 f0 rfl
  rw [o0.1, o0.2] at g0
  rw [List.getElem?_eq_getElem (show 0 < xs.length by rw [hxl]; simp)] at g0
  obtain ⟨y0, z0⟩ := h0 g0
  have g1 := hg 1 f1 rfl
  rw [o1.1, o1.2] at g1
  rw [List.getElem?_eq_getElem (show 1 < xs.length by rw [hxl]; simp)] at g1
  obtain ⟨y1, z1⟩ := h1 g1
  have g2 := hg 2 f2 rfl
  rw [o2.1, o2.2] at g2
  rw [List.getElem?_eq_getElem (show 2 < xs.length by rw [hxl]; simp)] at g2
  obtain ⟨y2, z2⟩ := h2 g2
  have g3 := hg 3 f3 rfl
  rw [o3.1, o3.2] at g3
  rw [List.getElem?_eq_getElem (show 3 < xs.length by rw [hxl]; simp)] at g3
  obtain ⟨y3, z3⟩ := h3 g3
  have g4 := hg 4 f4 rfl
  rw [o4.1, o4.2] at g4
  rw [List.getElem?_eq_getElem (show 4 < xs.length by rw [hxl]; simp)] at g4
  obtain ⟨y4, z4⟩ := h4 g4
  have g5 := hg 5 f5 rfl
  rw [o5.1, o5.2] at g5
  rw [List.getElem?_eq_getElem (show 5 < xs.length by rw [hxl]; simp)] at g5
  obtain ⟨y5, z5⟩ := h5 g5
  have g6 := hg 6 f6 rfl
  rw [o6.1, o6.2] at g6
  rw [List.getElem?_eq_getElem (show 6 < xs.length by rw [hxl]; simp)] at g6
  obtain ⟨y6, z6⟩ := h6 g6
  have g7 := hg 7 f7 rfl
  rw [o7.1, o7.2] at g7
  rw [List.getElem?_eq_getElem (show 7 < xs.length by rw [hxl]; simp)] at g7
  obtain ⟨y7, z7⟩ := h7 g7
  have g8 := hg 8 f8 rfl
  rw [o8.1, o8.2] at g8
  rw [List.getElem?_eq_getElem (show 8 < xs.length by rw [hxl]; simp)] at g8
  obtain ⟨y8, z8⟩ := h8 g8
  have g9 := hg 9 f9 rfl
  rw [o9.1, o9.2] at g9
  rw [List.getElem?_eq_getElem (show 9 < xs.length by rw [hxl]; simp)] at g9
  obtain ⟨y9, z9⟩ := h9 g9
  exact ⟨(y0, y1, y2, y3, y4, y5, y6, y7, y8, y9), hlen.trans hC, z0, z1, z2, z3, z4, z5, z6, z7, z8, z9⟩

/-- A parameter's reading. -/
theorem decode {α : Type} {P : Program} {t : TypeId} {R : Rd α} (hR : Decodes P t R) {H : Type} {enc : TypeId × Value → H} {w : World} {base : Nat} {sp : Nat → Bool} {held : Bool} {v : Value} {d : DataW H} {p : List MemPlace}
    (h : DataW.Trod enc P w base sp held t v d p) : ∃ y, R w v.cells.toList y := by
  obtain ⟨fuel, hf⟩ := h
  exact hR hf

/-- What a parameter that is a slice is. -/
theorem decode_slice {α : Type} {P : Program} {t e : TypeId} {n : Nat} {R : Rd α} (ht : P.underlying t = some (.slice e)) (hR : Decodes P t (rSlice n R)) {H : Type} {enc : TypeId × Value → H} {w : World} {b0 base : Nat} {sp : Nat → Bool} {held : Bool} {v : Value} {d : DataW H} {p : List MemPlace}
    (hok : Value.okWide P w .any b0 t v) (h : DataW.Trod enc P w base sp held t v d p) : ∃ y, rSlice n R w [v] y := by
  obtain ⟨y, hy⟩ := decode hR h
  obtain ⟨a, len, cap, rfl⟩ := okWide_slice ht hok
  exact ⟨y, by simpa [Value.cells] using hy⟩
end Go.Cl
