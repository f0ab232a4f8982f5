/- Bytes behind an address, parts (lists of bytes) behind an address, the parts laid one behind the other. Generic: no program. No condition. -/
import Derived.Test.YtfihpiommicdbaaDoorLibNums
namespace Go.Cl
open Go.RowKit
/-- Bytes behind an address. -/
def BytesAt (w : World) (ob : Option Addr) (x : List Int) : Prop := ∀ j b, x[j]? = some b → ∃ a, ob = some a ∧ w.cell? (a.add j) = some (.int .u8 b) ∧ 0 ≤ b ∧ b ≤ 255
/-- A slice of bytes. -/
def BytesIs (w : World) (v : Value) (x : List Int) : Prop := ∃ ob c, v = .slice ob x.length c ∧ x.length ≤ c ∧ c ≤ maxLen ∧ (ob = none → c = 0) ∧ BytesAt w ob x
/-- Parts behind an address. -/
def PartsAre (w : World) (oa : Option Addr) (ps : List (List Int)) : Prop := ∀ i x, ps[i]? = some x → ∃ a v, oa = some a ∧ w.cell? (a.add i) = some v ∧ BytesIs w v x

theorem BytesAt.frame {S : Nat → Prop} {w w' : World} {ob : Option Addr} {x : List Int} (h : BytesAt w ob x) (hc : Chg S w w') (hs : ∀ i, i < w.heap.size → ¬ S i) : BytesAt w' ob x := fun j b hb => by
  obtain ⟨a, h1, h2, h3⟩ := h j b hb
  exact ⟨a, h1, cell_frame hc hs h2, h3⟩
theorem BytesIs.frame {S : Nat → Prop} {w w' : World} {v : Value} {x : List Int} (h : BytesIs w v x) (hc : Chg S w w') (hs : ∀ i, i < w.heap.size → ¬ S i) : BytesIs w' v x := by
  obtain ⟨ob, c, h1, h2, h3, h4, h5⟩ := h
  exact ⟨ob, c, h1, h2, h3, h4, h5.frame hc hs⟩
theorem PartsAre.frame {S : Nat → Prop} {w w' : World} {oa : Option Addr} {ps : List (List Int)} (h : PartsAre w oa ps) (hc : Chg S w w') (hs : ∀ i, i < w.heap.size → ¬ S i) : PartsAre w' oa ps := fun i x hx => by
  obtain ⟨a, v, h1, h2, h3⟩ := h i x hx
  exact ⟨a, v, h1, cell_frame hc hs h2, h3.frame hc hs⟩
theorem BytesAt.byte {w : World} {ob : Option Addr} {x : List Int} (h : BytesAt w ob x) : ∀ b ∈ x, 0 ≤ b ∧ b ≤ 255 := fun b hb => by
  obtain ⟨j, hj, rfl⟩ := List.getElem_of_mem hb
  obtain ⟨_, _, _, h1, h2⟩ := h j _ (List.getElem?_eq_getElem hj)
  exact ⟨h1, h2⟩
theorem BytesIs.byte {w : World} {v : Value} {x : List Int} (h : BytesIs w v x) : ∀ b ∈ x, 0 ≤ b ∧ b ≤ 255 := by
  obtain ⟨ob, c, _, _, _, _, h5⟩ := h
  exact h5.byte
theorem PartsAre.byte {w : World} {oa : Option Addr} {ps : List (List Int)} (h : PartsAre w oa ps) : ∀ b ∈ ps.flatten, 0 ≤ b ∧ b ≤ 255 := fun b hb => by
  obtain ⟨x, hx, hbx⟩ := List.mem_flatten.1 hb
  obtain ⟨i, hi, rfl⟩ := List.getElem_of_mem hx
  obtain ⟨_, _, _, _, h3⟩ := h i _ (List.getElem?_eq_getElem hi)
  exact h3.byte b hbx
theorem BytesIs.len {w : World} {v : Value} {x : List Int} (h : BytesIs w v x) : x.length ≤ maxLen := by
  obtain ⟨ob, c, _, h1, h2, _⟩ := h
  omega

/-- A slice of bytes with its address written out. -/
theorem BytesIs.at {w : World} {v : Value} {x : List Int} (h : BytesIs w v x) (hn : 0 < x.length) : ∃ g o c, v = .slice (some ⟨g, o, none⟩) x.length c ∧ x.length ≤ c ∧ c ≤ maxLen ∧ (∀ j b, x[j]? = some b → w.cell? ⟨g, o + j, none⟩ = some (.int .u8 b) ∧ 0 ≤ b ∧ b ≤ 255) := by
  obtain ⟨ob, c, rfl, h1, h2, h3, h4⟩ := h
  obtain ⟨⟨g, o, sp⟩, rfl, hc, _⟩ := h4 0 _ (List.getElem?_eq_getElem hn)
  have : sp = none := by simpa [Addr.add] using World.cell?_spot hc
  subst this
  refine ⟨g, o, c, rfl, h1, h2, fun j b hb => ?_⟩
  obtain ⟨a, ha, hx, hb1, hb2⟩ := h4 j b hb
  cases ha
  rw [addr_add] at hx
  exact ⟨hx, hb1, hb2⟩

theorem BytesIs.src {w : World} {oa : Option Addr} {n c : Nat} {x : List Int} (h : BytesIs w (.slice oa n c) x) : SrcIs w 1 oa x.length (x.map (Value.int .u8)) := by
  obtain ⟨ob, c', hv, h1, h2, h3, h4⟩ := h
  simp only [Value.slice.injEq] at hv
  obtain ⟨rfl, rfl, rfl⟩ := hv
  cases oa with
  | none =>
    have := h3 rfl
    have hx : x = [] := List.length_eq_zero_iff.1 (by omega)
    subst hx
    exact SrcIs.none
  | some a =>
    refine SrcIs.some (by simp) (fun u hu => by obtain ⟨j, _, rfl⟩ := List.mem_map.1 hu; rfl) fun j u hu => ?_
    rw [List.getElem?_map] at hu
    cases hx : x[j]? with
    | none => rw [hx] at hu; simp at hu
    | some b =>
      rw [hx] at hu
      simp at hu
      subst hu
      obtain ⟨a', ha, hc, _⟩ := h4 j b hx
      cases ha
      exact hc

theorem row_bytes {w : World} {base : Nat} {e : TypeId} {v : Value} {n : Nat} {x : List Int} (h : w.ownsRow base e 1 v n (x.map (Value.int .u8))) (hb : ∀ b ∈ x, 0 ≤ b ∧ b ≤ 255) : BytesIs w v x := by
  have hn : n = x.length := by have := h.1; simp at this; omega
  subst hn
  by_cases h0 : 0 < x.length
  · obtain ⟨g, cap, cur, rfl, _, hc, hm, _, _, hx⟩ := row_at h h0
    refine ⟨_, cap, rfl, hc, hm, (fun h => by cases h), fun j b hj => ⟨_, rfl, ?_, hb b (List.mem_of_getElem? hj)⟩⟩
    rw [addr_add, Nat.zero_add]
    exact hx j _ (by rw [List.getElem?_map, hj]; rfl)
  · have hx : x = [] := List.length_eq_zero_iff.1 (by omega)
    subst hx
    rcases h.2 with ⟨rfl, _⟩ | ⟨g, cap, cur, rfl, _, _, hc, hm, _, _⟩
    · exact ⟨none, 0, rfl, by simp, by simp, fun _ => rfl, fun j b hj => by simp at hj⟩
    · exact ⟨_, cap, rfl, hc, hm, (fun h => by cases h), fun j b hj => by simp at hj⟩

theorem PartsAre.at {w : World} {oa : Option Addr} {ps : List (List Int)} (h : PartsAre w oa ps) (hn : 0 < ps.length) : ∃ g o, oa = some ⟨g, o, none⟩ ∧ ∀ i x, ps[i]? = some x → ∃ v, w.cell? ⟨g, o + i, none⟩ = some v ∧ BytesIs w v x := by
  obtain ⟨⟨g, o, sp⟩, v, rfl, hc, _⟩ := h 0 _ (List.getElem?_eq_getElem hn)
  have : sp = none := by simpa [Addr.add] using World.cell?_spot hc
  subst this
  refine ⟨g, o, rfl, fun i x hx => ?_⟩
  obtain ⟨a, v, ha, hc, hb⟩ := h i x hx
  cases ha
  rw [addr_add] at hc
  exact ⟨v, hc, hb⟩

/-- The first parts, one behind the other. -/
def catTo (ps : List (List Int)) (i : Nat) : List Int := (ps.take i).flatten
def cat (ps : List (List Int)) : List Int := ps.flatten
theorem catTo_zero (ps : List (List Int)) : catTo ps 0 = [] := by simp [catTo]
theorem catTo_all (ps : List (List Int)) : catTo ps ps.length = cat ps := by simp [catTo, cat]
theorem catTo_next {ps : List (List Int)} {i : Nat} {x : List Int} (h : ps[i]? = some x) : catTo ps (i + 1) = catTo ps i ++ x := by
  obtain ⟨hi, rfl⟩ := List.getElem?_eq_some_iff.1 h
  unfold catTo
  rw [List.take_succ_eq_append_getElem hi, List.flatten_append]
  simp

theorem nums_bytes {w : World} {v : Value} {x : List Int} (h : NumsAre .u8 w v x) : BytesIs w v x := by
  obtain ⟨oa, cap, h1, h2, h3, h4, h5⟩ := h
  refine ⟨oa, cap, h1, h2, h3, fun h => (h4 h).2, fun j b hj => ?_⟩
  obtain ⟨a, ha, hc, hw⟩ := h5 j b hj
  simp [Lit.wf, IntKind.min, IntKind.max, IntKind.signed, IntKind.bits] at hw
  exact ⟨a, ha, hc, by omega, by omega⟩
end Go.Cl
