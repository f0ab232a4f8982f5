/- Things that lie apart in memory: each holds of its own blocks alone; what a step does to one leaves the others. Generic: no program. No condition. -/
import Derived.Test.YtoglgkplddlemaaLibApp
namespace Go.Cl

/-- Something that holds of a world, and the blocks of which it speaks. -/
structure Thing where
  holds : World → Prop
  foot : Nat → Prop
  stable : ∀ {S : Nat → Prop} {w w' : World}, holds w → Chg S w w' → (∀ i, foot i → ¬ S i) → holds w'
  old : ∀ {w : World} {i : Nat}, holds w → foot i → i < w.heap.size

def Apart (t u : Thing) : Prop := ∀ i, t.foot i → ¬ u.foot i
theorem Apart.symm {t u : Thing} (h : Apart t u) : Apart u t := fun i hi hj => h i hj hi

/-- ALL HOLD, IN BLOCKS FROM base ON, EACH APART FROM EACH OTHER. -/
structure Sep (base : Nat) (w : World) (L : List Thing) : Prop where
  all : ∀ t ∈ L, t.holds w
  above : ∀ t ∈ L, ∀ i, t.foot i → base ≤ i
  apart : L.Pairwise Apart

theorem Sep.nil (base : Nat) (w : World) : Sep base w [] := ⟨by simp, by simp, .nil⟩
theorem Sep.perm {base : Nat} {w : World} {L L' : List Thing} (h : Sep base w L) (hp : L.Perm L') : Sep base w L' :=
  ⟨fun t ht => h.all t (hp.mem_iff.2 ht), fun t ht => h.above t (hp.mem_iff.2 ht), (hp.pairwise_iff (fun {_ _} h => Apart.symm h)).1 h.apart⟩
theorem Sep.sub {base : Nat} {w : World} {L L' : List Thing} (h : Sep base w L) (hs : L'.Sublist L) : Sep base w L' :=
  ⟨fun t ht => h.all t (hs.subset ht), fun t ht => h.above t (hs.subset ht), h.apart.sublist hs⟩
theorem Sep.tail {base : Nat} {w : World} {t : Thing} {L : List Thing} (h : Sep base w (t :: L)) : Sep base w L := h.sub (List.sublist_cons_self t L)
theorem Sep.head {base : Nat} {w : World} {t : Thing} {L : List Thing} (h : Sep base w (t :: L)) : t.holds w := h.all t (by simp)
theorem Sep.lower {base base' : Nat} {w : World} {L : List Thing} (h : Sep base w L) (hb : base' ≤ base) : Sep base' w L := ⟨h.all, fun t ht i hi => Nat.le_trans hb (h.above t ht i hi), h.apart⟩

/-- Nothing of theirs has turned. -/
theorem Sep.frameS {S : Nat → Prop} {base : Nat} {w w' : World} {L : List Thing} (h : Sep base w L) (hc : Chg S w w') (hs : ∀ t ∈ L, ∀ i, t.foot i → ¬ S i) : Sep base w' L :=
  ⟨fun t ht => t.stable (h.all t ht) hc (hs t ht), h.above, h.apart⟩
theorem Sep.frame {base : Nat} {w w' : World} {L : List Thing} (h : Sep base w L) (hc : Chg (fun _ => False) w w') : Sep base w' L := h.frameS hc fun _ _ _ _ => id

/-- The first one is turned. -/
theorem Sep.put {S : Nat → Prop} {base : Nat} {w w' : World} {t t' : Thing} {L : List Thing} (h : Sep base w (t :: L)) (hb : base ≤ w.heap.size) (hc : Chg S w w') (hs : ∀ i, i < w.heap.size → S i → t.foot i) (h' : t'.holds w') (hf : ∀ i, t'.foot i → t.foot i ∨ w.heap.size ≤ i) : Sep base w' (t' :: L) := by
  have hap := List.pairwise_cons.1 h.apart
  have hold : ∀ u ∈ L, ∀ i, u.foot i → i < w.heap.size := fun u hu i hi => u.old (h.all u (by simp [hu])) hi
  refine ⟨fun u hu => ?_, fun u hu i hi => ?_, List.pairwise_cons.2 ⟨fun u hu i hi hj => ?_, hap.2⟩⟩
  · rcases List.mem_cons.1 hu with rfl | hu
    · exact h'
    · exact u.stable (h.all u (by simp [hu])) hc fun i hi hsi => hap.1 u hu i (hs i (hold u hu i hi) hsi) hi
  · rcases List.mem_cons.1 hu with rfl | hu
    · rcases hf i hi with h1 | h1
      · exact h.above t (by simp) i h1
      · omega
    · exact h.above u (by simp [hu]) i hi
  · rcases hf i hi with h1 | h1
    · exact hap.1 u hu i h1 hj
    · have := hold u hu i hj; omega
/-- One that stands anywhere. -/
theorem Sep.putAt {S : Nat → Prop} {base : Nat} {w w' : World} {t t' : Thing} (A : List Thing) {B : List Thing} (h : Sep base w (A ++ t :: B)) (hb : base ≤ w.heap.size) (hc : Chg S w w') (hs : ∀ i, i < w.heap.size → S i → t.foot i) (h' : t'.holds w') (hf : ∀ i, t'.foot i → t.foot i ∨ w.heap.size ≤ i) : Sep base w' (A ++ t' :: B) :=
  ((h.perm List.perm_middle).put hb hc hs h' hf).perm List.perm_middle.symm
/-- One more, made new. -/
theorem Sep.push {base : Nat} {w w' : World} {t' : Thing} {L : List Thing} (h : Sep base w L) (hb : base ≤ w.heap.size) (hc : Chg (fun _ => False) w w') (h' : t'.holds w') (hf : ∀ i, t'.foot i → w.heap.size ≤ i) : Sep base w' (t' :: L) := by
  refine ⟨fun u hu => ?_, fun u hu i hi => ?_, List.pairwise_cons.2 ⟨fun u hu i hi hj => ?_, h.apart⟩⟩
  · rcases List.mem_cons.1 hu with rfl | hu
    · exact h'
    · exact u.stable (h.all u hu) hc fun _ _ => id
  · rcases List.mem_cons.1 hu with rfl | hu
    · exact Nat.le_trans hb (hf i hi)
    · exact h.above u hu i hi
  · have h1 := hf i hi
    have h2 := u.old (h.all u hu) hj
    omega
theorem Sep.pushAt {base : Nat} {w w' : World} {t' : Thing} (A : List Thing) {B : List Thing} (h : Sep base w (A ++ B)) (hb : base ≤ w.heap.size) (hc : Chg (fun _ => False) w w') (h' : t'.holds w') (hf : ∀ i, t'.foot i → w.heap.size ≤ i) : Sep base w' (A ++ t' :: B) :=
  (h.push hb hc h' hf).perm List.perm_middle.symm
theorem Sep.at {base : Nat} {w : World} {t : Thing} (A : List Thing) {B : List Thing} (h : Sep base w (A ++ t :: B)) : t.holds w := h.all t (by simp)
theorem Sep.old {base : Nat} {w : World} {L : List Thing} (h : Sep base w L) {t : Thing} (ht : t ∈ L) {i : Nat} (hi : t.foot i) : base ≤ i ∧ i < w.heap.size := ⟨h.above t ht i hi, t.old (h.all t ht) hi⟩

/-- A row of its own. -/
def rowT (base : Nat) (e : TypeId) (size : Nat) (v : Value) (n : Nat) (xs : List Value) : Thing :=
  ⟨fun w => w.ownsRow base e size v n xs, fun i => some i = v.ownBlock, fun h hc hs => row_frame h hc fun g hg => hs g hg.symm, fun h hi => by
    obtain ⟨_, cur, hb⟩ := row_block h hi.symm
    exact blk_lt hb⟩
/-- A block of cells. -/
def blkT (b : Nat) (o : Obj) : Thing := ⟨fun w => blk w b = some o, fun i => i = b, fun h hc hs => hc.blk' h (hs b rfl), fun h hi => by subst hi; exact blk_lt h⟩

/-- What append does to a row among others. -/
theorem Sep.app {base : Nat} {w w' : World} {e : TypeId} {size n n' : Nat} {v v' : Value} {xs xs' : List Value} (A : List Thing) {B : List Thing} (h : Sep base w (A ++ rowT base e size v n xs :: B)) (hb : base ≤ w.heap.size) (hown : w'.ownsRow base e size v' n' xs') (hg : w.grownBy w' v.ownBlock) (hl : v'.ownBlock = v.ownBlock ∨ v'.ownBlock = some w.heap.size) : Sep base w' (A ++ rowT base e size v' n' xs' :: B) :=
  h.putAt A hb (Chg.of_grown hg) (fun _ _ h => h) hown fun i hi => by
    rcases hl with hl | hl
    · exact .inl (show some i = v.ownBlock from (show some i = v'.ownBlock from hi).trans hl)
    · have h2 : some i = v'.ownBlock := hi
      rw [hl] at h2
      cases h2
      exact .inr (Nat.le_refl _)
/-- A row of nothing lies anywhere. -/
theorem Sep.nilRow {base : Nat} {w : World} {L : List Thing} (h : Sep base w L) (e : TypeId) (size : Nat) : Sep base w (rowT base e size (.slice none 0 0) 0 [] :: L) := by
  refine ⟨fun u hu => ?_, fun u hu i hi => ?_, List.pairwise_cons.2 ⟨fun u hu i hi hj => ?_, h.apart⟩⟩
  · rcases List.mem_cons.1 hu with rfl | hu
    · exact ⟨by simp, .inl ⟨rfl, rfl⟩⟩
    · exact h.all u hu
  · rcases List.mem_cons.1 hu with rfl | hu
    · have h2 : some i = none := hi
      cases h2
    · exact h.above u hu i hi
  · have h2 : some i = none := hi
    cases h2
end Go.Cl
