/- Two TLBs with the same slots in the same order answer alike, and go on alike (plain). Arguments of whole numbers, read. No condition. -/
import Derived.Test.YtoglgkplddlemaaTlbP
import Derived.Test.YtoglgkplddlemaaLibNums
namespace Go.Proofs.Ytoglgkplddlemaa
open Go.RowKit Go.Cl Go.Shelf Go.Sort
set_option linter.unusedVariables false

def Like (A B : List En) : Prop := A.map tm = B.map tm
theorem Like.symm {A B : List En} (h : Like A B) : Like B A := Eq.symm h
theorem Like.length {A B : List En} (h : Like A B) : A.length = B.length := by simpa using congrArg List.length h
theorem map_filter_is (L : List En) (c p : Int) : (L.filter fun e => !e.is c p).map tm = (L.map tm).filter fun t => !(t.1 == c && t.2.1 == p) := by
  rw [List.filter_map]
  rfl
theorem Like.filter {A B : List En} (h : Like A B) (c p : Int) : Like (A.filter fun e => !e.is c p) (B.filter fun e => !e.is c p) := by
  unfold Like at *
  rw [map_filter_is, map_filter_is, h]
theorem Like.bump {A B : List En} (h : Like A B) (c p f r now now' : Int) : Like (bump A c p f r now) (bump B c p f r now') := by
  have := h.filter c p
  unfold Like at *
  simp only [Proofs.Ytoglgkplddlemaa.bump, List.map_cons, this]
  rfl
theorem hit_map : ∀ (L : List En) (c p : Int), (hitE L c p).map tm = (L.map tm).find? fun t => t.1 == c && t.2.1 == p
  | [], c, p => rfl
  | x :: L, c, p => by
    unfold hitE
    rw [List.map_cons, List.find?_cons, List.find?_cons]
    have e : x.is c p = ((tm x).1 == c && (tm x).2.1 == p) := rfl
    rw [← e]
    cases x.is c p with
    | true => rfl
    | false => exact hit_map L c p
theorem Like.hit {A B : List En} (h : Like A B) (c p : Int) : (hitE A c p).map tm = (hitE B c p).map tm := by
  rw [hit_map, hit_map, h]
theorem Like.lookV {A B : List En} (h : Like A B) (c p : Int) : lookV A c p = lookV B c p := by
  have := h.hit c p
  unfold Proofs.Ytoglgkplddlemaa.lookV
  cases h1 : hitE A c p with
  | none =>
    rw [h1] at this
    cases h2 : hitE B c p with
    | none => rfl
    | some y => rw [h2] at this; cases this
  | some x =>
    rw [h1] at this
    cases h2 : hitE B c p with
    | none => rw [h2] at this; cases this
    | some y =>
      rw [h2] at this
      have h3 := tm_eq.1 (Option.some.inj this)
      simp only [h3.2.2.1, h3.2.2.2]
theorem Like.lookL {A B : List En} (h : Like A B) (c p now now' : Int) : Like (lookL A c p now) (lookL B c p now') := by
  have := h.hit c p
  unfold Proofs.Ytoglgkplddlemaa.lookL
  cases h1 : hitE A c p with
  | none =>
    rw [h1] at this
    cases h2 : hitE B c p with
    | none => exact h
    | some y => rw [h2] at this; cases this
  | some x =>
    rw [h1] at this
    cases h2 : hitE B c p with
    | none => rw [h2] at this; cases this
    | some y =>
      rw [h2] at this
      have h3 := tm_eq.1 (Option.some.inj this)
      simp only [h3.2.2.1, h3.2.2.2]
      exact h.bump c p _ _ _ _
theorem Like.last {A B : List En} (h : Like A B) : A.getLast?.map tm = B.getLast?.map tm := by
  rw [← List.getLast?_map, ← List.getLast?_map, h]
theorem Like.put {A B : List En} (h : Like A B) (sl c p f r now now' : Int) : Like (putL A sl c p f r now).1 (putL B sl c p f r now').1 ∧ goneV (putL A sl c p f r now).2 = goneV (putL B sl c p f r now').2 := by
  have h1 : (hitE A c p).isSome = (hitE B c p).isSome := by
    have := congrArg Option.isSome (h.hit c p)
    simpa using this
  have hl := h.length
  unfold putL
  rw [h1, hl]
  split
  · exact ⟨h.bump _ _ _ _ _ _, rfl⟩
  · split
    · exact ⟨h.bump _ _ _ _ _ _, rfl⟩
    · have h2 := h.last
      cases hA : A.getLast? with
      | none =>
        rw [hA] at h2
        cases hB : B.getLast? with
        | none => exact ⟨h.bump _ _ _ _ _ _, rfl⟩
        | some y => rw [hB] at h2; cases h2
      | some x =>
        rw [hA] at h2
        cases hB : B.getLast? with
        | none => rw [hB] at h2; cases h2
        | some y =>
          rw [hB] at h2
          have h3 := tm_eq.1 (Option.some.inj h2)
          simp only [h3.1, h3.2.1]
          exact ⟨Like.bump (h.filter _ _) _ _ _ _ _ _, by simp only [goneV, h3.1, h3.2.1]⟩

/-- The tags of a TLB come once. -/
theorem TlbIs.once {w : World} {b m : Nat} {sl now : Int} {L : List En} (h : TlbIs w b m sl now L) : (L.map fun e => (e.c, e.p)).Nodup := by
  have h1 := h.mp.nodup
  rw [List.map_map] at h1
  rw [List.nodup_iff_pairwise_ne, List.pairwise_map] at h1 ⊢
  refine h1.imp fun {x y} hxy hne => hxy ?_
  simp only [Prod.mk.injEq] at hne
  simp only [Function.comp, En.pair, hne.1, hne.2]

theorem uSl_chg {S : Nat → Prop} {w w' : World} {oa : Option Addr} {cap : Nat} {us : List UseT} (h : USl w oa cap us) (hc : Chg S w w') (hs : ∀ i, i < w.heap.size → ¬ S i) : USl w' oa cap us := by
  refine ⟨h.1, h.2.1, fun i u hu => ?_⟩
  obtain ⟨b, o, h1, k0, k1, k2, hok⟩ := h.2.2 i u hu
  exact ⟨b, o, h1, cell_frame hc hs k0, cell_frame hc hs k1, cell_frame hc hs k2, hok⟩

set_option maxRecDepth 100000 in
theorem open_ints {H : Type} {enc : TypeId × Value → H} {w : World} {b0 base : Nat} {sp : Nat → Bool} {held : Bool} {v : Value} {d : DataW H} {p : List MemPlace}
    (hok : Value.okWide Try.prog w .any b0 61 v) (h : DataW.Trod enc Try.prog w base sp held 61 v d p) : ∃ us, NumsAre .i64 w v us := open_nums Try.underlying61 Try.underlying3 (by kernel_rfl) hok h
theorem ints_sl {w : World} {v : Value} {xs : List Int} (h : NumsAre .i64 w v xs) : ∃ oa cap, v = .slice oa xs.length cap ∧ IntsSl w oa cap xs ∧ ∀ b o, oa = some ⟨b, o, none⟩ → xs ≠ [] → b < w.heap.size := by
  obtain ⟨oa, cap, rfl, h1, h2, h3, h4⟩ := h
  by_cases hx : xs = []
  · subst hx
    exact ⟨oa, cap, rfl, ⟨h1, h2, fun i x hi => by simp at hi⟩, fun _ _ _ h => absurd rfl h⟩
  · obtain ⟨x0, hx0⟩ := List.exists_mem_of_ne_nil xs hx
    obtain ⟨i0, hi0⟩ := List.getElem?_of_mem hx0
    obtain ⟨a, rfl, hc, -⟩ := h4 i0 x0 hi0
    have h0 : 0 < xs.length := Nat.lt_of_le_of_lt (Nat.zero_le _) (List.getElem?_eq_some_iff.1 hi0).1
    obtain ⟨a', ha', hc0, -⟩ := h4 0 _ (List.getElem?_eq_getElem h0)
    obtain rfl := Option.some.inj ha'
    obtain ⟨g, o, sp⟩ := a
    have hsp : sp = none := by simpa [Addr.add] using World.cell?_spot hc0
    subst hsp
    refine ⟨_, cap, rfl, ⟨h1, h2, fun i x hi => ?_⟩, fun b o' hb _ => ?_⟩
    · obtain ⟨a, ha, hc, hw⟩ := h4 i x hi
      obtain rfl := Option.some.inj ha
      rw [addr_add] at hc
      exact ⟨g, o, rfl, hc, i64_of hw⟩
    · cases hb
      have := World.block_lt_of_cell? _ _ hc
      simpa [addr_add] using this
end Go.Proofs.Ytoglgkplddlemaa
