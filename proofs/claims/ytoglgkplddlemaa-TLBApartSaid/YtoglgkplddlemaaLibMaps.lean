/- A small library for walks: what a step may have changed ('Chg'), and maps as lists of pairs up to order ('MapIs'), with the laws of Go's operations on them. No condition. -/
import Derived.WalkKit
import Derived.Maps.OwnSet
import Derived.Maps.RangeWalk
import Derived.DeepKeys4
namespace Go.Cl
open Go.ChangeMaps Go.MapKept Go.RowKit
open Go.Maps (Keyed)

/-- Of the blocks that were there only those in S may have turned; streams and tape are as they were. -/
structure Chg (S : Nat → Prop) (w w' : World) : Prop where
  os : w'.os = w.os
  tape : w'.tape = w.tape
  output : w'.output = w.output
  size : w.heap.size ≤ w'.heap.size
  block : ∀ k, k < w.heap.size → ¬ S k → w'.heap[k]? = w.heap[k]?

theorem Chg.refl (S : Nat → Prop) (w : World) : Chg S w w := ⟨rfl, rfl, rfl, Nat.le_refl _, fun _ _ _ => rfl⟩

theorem Chg.trans {S S' : Nat → Prop} {a b c : World} (h : Chg S a b) (k : Chg S' b c) (hs : ∀ i, i < a.heap.size → S' i → S i) : Chg S a c :=
  ⟨k.os.trans h.os, k.tape.trans h.tape, k.output.trans h.output, Nat.le_trans h.size k.size, fun i hi hn =>
    (k.block i (Nat.lt_of_lt_of_le hi h.size) (fun e => hn (hs i hi e))).trans (h.block i hi hn)⟩

theorem Chg.mono {S S' : Nat → Prop} {a b : World} (h : Chg S a b) (hs : ∀ i, i < a.heap.size → S i → S' i) : Chg S' a b :=
  ⟨h.os, h.tape, h.output, h.size, fun i hi hn => h.block i hi (fun e => hn (hs i hi e))⟩

theorem Chg.step {S S1 S2 : Nat → Prop} {a b c : World} (h : Chg S1 a b) (k : Chg S2 b c) (h1 : ∀ i, i < a.heap.size → S1 i → S i) (h2 : ∀ i, i < a.heap.size → S2 i → S i) : Chg S a c := (h.mono h1).trans k h2

theorem Chg.alloc {S : Nat → Prop} {a w : World} (h : Chg S a w) (o : Obj) : Chg S a (w.alloc o) :=
  h.trans (S' := fun _ => False) ⟨rfl, rfl, rfl, by simp, fun k hk _ => Below.heap_alloc _ _ _ hk⟩ (fun _ _ e => e.elim)

theorem Chg.drew {S : Nat → Prop} {a w : World} (h : Chg S a w) : Chg S a w.drew := ⟨h.os, h.tape, h.output, h.size, h.block⟩

theorem Chg.setCell {S : Nat → Prop} {a w : World} (h : Chg S a w) {p : Addr} (hp : p.block < a.heap.size → S p.block) (u : Value) : Chg S a (w.setCell p u) :=
  h.trans (S' := fun i => i = p.block) ⟨rfl, rfl, rfl, by simp, fun k _ hn => Below.heap_setCell _ _ _ _ hn⟩ (fun i hi e => e ▸ hp (e ▸ hi))

theorem setBlock_ne (w : World) (b : Nat) (o : Obj) {k : Nat} (h : k ≠ b) : (setBlock w b o).heap[k]? = w.heap[k]? := by
  simp [setBlock, Ne.symm h]

theorem setBlock_eq (w : World) (b : Nat) (o : Obj) (h : b < w.heap.size) : (setBlock w b o).heap[b]? = some o := by
  simp [setBlock, h]

@[simp] theorem size_setBlock (w : World) (b : Nat) (o : Obj) : (setBlock w b o).heap.size = w.heap.size := by simp [setBlock]

theorem Chg.setBlock {S : Nat → Prop} {a w : World} (h : Chg S a w) {b : Nat} (hp : b < a.heap.size → S b) (o : Obj) : Chg S a (setBlock w b o) :=
  h.trans (S' := fun i => i = b) ⟨rfl, rfl, rfl, by simp, fun k _ hn => setBlock_ne _ _ _ hn⟩ (fun i hi e => e ▸ hp (e ▸ hi))

theorem Chg.below {S : Nat → Prop} {a w : World} (h : Chg S a w) {B : Nat} (hB : B ≤ a.heap.size) (hs : ∀ k, k < B → ¬ S k) : Below B a w :=
  ⟨h.os, h.tape, h.output, h.size, fun k hk => h.block k (by omega) (hs k hk)⟩

theorem Chg.of_below {a w : World} (h : Below a.heap.size a w) (S : Nat → Prop) : Chg S a w := ⟨h.os, h.tape, h.output, h.size, fun k hk _ => h.block k hk⟩

/-- What a world has in a block. (Under a name of its own: simp leaves it as it stands.) -/
def blk (w : World) (b : Nat) : Option Obj := w.heap[b]?


theorem lt_of_block {w : World} {b : Nat} {o : Obj} (h : w.heap[b]? = some o) : b < w.heap.size := (Array.getElem?_eq_some_iff.1 h).1

theorem lt_add_one' {n k : Nat} (h : n < k) : (n < k + 1) = True := by simp; omega
theorem blk_alloc_past (w : World) (o : Obj) (n : Nat) (hn : n < w.heap.size) : blk (w.alloc o) n = blk w n := Below.heap_alloc _ _ _ hn
theorem blk_alloc_at (w : World) (o : Obj) (n : Nat) (hn : n = w.heap.size) : blk (w.alloc o) n = some o := by subst hn; exact heap_alloc_new w o
theorem blk_drew (w : World) (n : Nat) : blk w.drew n = blk w n := rfl
theorem blk_setCell_ne (w : World) (a : Addr) (v : Value) (n : Nat) (hn : n ≠ a.block) : blk (w.setCell a v) n = blk w n := Below.heap_setCell _ _ _ _ hn
theorem blk_setBlock_ne (w : World) (b : Nat) (o : Obj) (n : Nat) (hn : n ≠ b) : blk (setBlock w b o) n = blk w n := setBlock_ne _ _ _ hn
theorem blk_setBlock_eq (w : World) (b : Nat) (o : Obj) (h : b < w.heap.size) : blk (setBlock w b o) b = some o := setBlock_eq _ _ _ h
theorem cell_setBlock_ne (w : World) (b : Nat) (o : Obj) (a : Addr) (hn : a.block ≠ b) : (setBlock w b o).cell? a = w.cell? a := World.cell?_of_block (setBlock_ne _ _ _ hn)
theorem frozen_setBlock_ne (w : World) (b : Nat) (o : Obj) (a : Addr) (hn : a.block ≠ b) : (setBlock w b o).frozen? a = w.frozen? a := World.frozen?_of_block (setBlock_ne _ _ _ hn)
theorem cell_of_blk {w : World} {b : Nat} {c : Array Value} {t : TypeId} {fr : Nat × Nat} (h : blk w b = some (.cells c t fr)) (i : Nat) : w.cell? ⟨b, i, none⟩ = c[i]? := by
  simp only [blk] at h; simp [World.cell?, h]
theorem frozen_of_blk {w : World} {b : Nat} {c : Array Value} {t : TypeId} (h : blk w b = some (.cells c t (0, 0))) (i : Nat) : w.frozen? ⟨b, i, none⟩ = false := by
  simp only [blk] at h; simp [World.frozen?, h]
theorem blk_lt {w : World} {b : Nat} {o : Obj} (h : blk w b = some o) : b < w.heap.size := lt_of_block h
theorem Chg.blk {S : Nat → Prop} {w w' : World} (h : Chg S w w') {b : Nat} (hb : b < w.heap.size) (hs : ¬ S b) : Go.Cl.blk w' b = Go.Cl.blk w b := h.block b hb hs
theorem Chg.blk' {S : Nat → Prop} {w w' : World} (h : Chg S w w') {b : Nat} {o : Obj} (hb : Go.Cl.blk w b = some o) (hs : ¬ S b) : Go.Cl.blk w' b = some o := (h.block b (lt_of_block hb) hs).trans hb
theorem blk_setCell (w : World) (b i : Nat) (v : Value) (c : Array Value) (t : TypeId) (fr : Nat × Nat) (h : blk w b = some (.cells c t fr)) : blk (w.setCell ⟨b, i, none⟩ v) b = some (.cells (c.setIfInBounds i v) t fr) := by
  simp only [blk] at h
  simp only [blk, World.setCell, Array.getElem?_modify, ↓reduceIte, h, Option.map_some]
  simp

theorem Chg.of_grown {w w' : World} {row : Option Nat} (h : w.grownBy w' row) : Chg (fun i => some i = row) w w' := ⟨h.os, h.tape, h.output, h.size, h.block⟩

/-- An owned row stays while other blocks turn. -/
theorem row_frame {S : Nat → Prop} {w w' : World} {base : Nat} {e : TypeId} {size : Nat} {v : Value} {n : Nat} {xs : List Value} (h : w.ownsRow base e size v n xs) (hc : Chg S w w') (hs : ∀ g, v.ownBlock = some g → ¬ S g) : w'.ownsRow base e size v n xs := by
  obtain ⟨h1, h2⟩ := h
  refine ⟨h1, ?_⟩
  rcases h2 with h2 | ⟨g, cap, cur, hv, hg, hh, r⟩
  · exact .inl h2
  · exact .inr ⟨g, cap, cur, hv, hg, (hc.block g (lt_of_block hh) (hs g (by rw [hv]; rfl))).trans hh, r⟩

/-- The block of an owned row: what lies there. -/
theorem row_block {w : World} {base : Nat} {e : TypeId} {size : Nat} {v : Value} {n : Nat} {xs : List Value} (h : w.ownsRow base e size v n xs) {g : Nat} (hg : v.ownBlock = some g) : base ≤ g ∧ ∃ cur, blk w g = some (.cells cur e (0, 0)) := by
  obtain ⟨h1, h2⟩ := h
  rcases h2 with h2 | ⟨g', cap, cur, hv, hg', hh, r⟩
  · rw [h2.1] at hg; cases hg
  · rw [hv] at hg
    cases hg
    exact ⟨hg', cur, hh⟩

/-- A cell of an owned row. -/
theorem row_cell {w : World} {base : Nat} {e : TypeId} {v : Value} {n : Nat} {xs : List Value} (h : w.ownsRow base e 1 v n xs) (hn : 0 < n) : ∃ g cap, v = .slice (some ⟨g, 0, none⟩) n cap ∧ n ≤ cap ∧ cap ≤ maxLen ∧ ∀ j x, xs[j]? = some x → w.cell? ⟨g, j, none⟩ = some x := by
  obtain ⟨h1, h2⟩ := h
  rcases h2 with h2 | ⟨g, cap, cur, hv, hg', hh, hc, hm, hcs, hx⟩
  · omega
  · refine ⟨g, cap, hv, hc, hm, fun j x hj => ?_⟩
    rw [← hx] at hj
    have hlt : j < n := by
      rcases Nat.lt_or_ge j n with h | h
      · exact h
      · rw [List.getElem?_eq_none (by simp; omega)] at hj; cases hj
    rw [List.getElem?_take_of_lt (by omega)] at hj
    simp [World.cell?, hh]
    simpa using hj

/-- What a store does to a block. -/
def objSet (i : Nat) (v : Value) : Obj → Obj
  | .cells c t fr => .cells (c.setIfInBounds i v) t fr
  | o => o
theorem blk_setCell_eq (w : World) (b i : Nat) (v : Value) : blk (w.setCell ⟨b, i, none⟩ v) b = (blk w b).map (objSet i v) := by
  simp only [blk, World.setCell, Array.getElem?_modify, ↓reduceIte]
  cases w.heap[b]? with
  | none => rfl
  | some o => cases o <;> simp [objSet]
theorem objSet_cells (i : Nat) (v : Value) (c : List Value) (t : TypeId) (fr : Nat × Nat) : objSet i v (.cells c.toArray t fr) = .cells (c.set i v).toArray t fr := by simp [objSet]

/-- A block that was there lies ahead of all that are made later: the facts, for simp. -/
theorem lts {n s : Nat} (h : n < s) : n < s ∧ n < s + 1 ∧ n < s + 1 + 1 ∧ n < s + 1 + 1 + 1 ∧ n < s + 1 + 1 + 1 + 1 ∧ n < s + 1 + 1 + 1 + 1 + 1 ∧ n < s + 1 + 1 + 1 + 1 + 1 + 1 ∧ n < s + 1 + 1 + 1 + 1 + 1 + 1 + 1 ∧ n < s + 1 + 1 + 1 + 1 + 1 + 1 + 1 + 1 ∧ n ≤ s ∧ n ≤ s + 1 ∧ n ≤ s + 1 + 1 ∧ n ≤ s + 1 + 1 + 1 ∧ n ≤ s + 1 + 1 + 1 + 1 ∧ n ≤ s + 1 + 1 + 1 + 1 + 1 ∧ n ≤ s + 1 + 1 + 1 + 1 + 1 + 1 ∧ n ≤ s + 1 + 1 + 1 + 1 + 1 + 1 + 1 ∧ n ≤ s + 1 + 1 + 1 + 1 + 1 + 1 + 1 + 1 := by
  refine ⟨?_, ?_, ?_, ?_, ?_, ?_, ?_, ?_, ?_, ?_, ?_, ?_, ?_, ?_, ?_, ?_, ?_, ?_⟩ <;> omega

/-- A key of type k. -/
def IsKey (P : Program) (k : TypeId) (v : Value) : Prop := ∃ l, keyOf P k v = some l

/-- BLOCK m OF w IS A MAP WITH THE PAIRS F (in whatever order). -/
def MapIs (P : Program) (k : TypeId) (w : World) (m : Nat) (F : List (Value × Value)) : Prop :=
  ∃ es clock, w.heap[m]? = some (.map es clock) ∧ Stamped es clock ∧ (∀ e ∈ es.toList, IsKey P k e.key) ∧ (es.toList.map fun e => (e.key, e.val)).Perm F

section
variable {P : Program} {k : TypeId} {w : World} {m : Nat} {F : List (Value × Value)}

theorem MapIs.lt (h : MapIs P k w m F) : m < w.heap.size := by obtain ⟨es, clock, hb, _⟩ := h; exact lt_of_block hb

theorem MapIs.of_block {w' : World} (h : MapIs P k w m F) (he : w'.heap[m]? = w.heap[m]?) : MapIs P k w' m F := by
  obtain ⟨es, clock, hb, r⟩ := h; exact ⟨es, clock, he.trans hb, r⟩

theorem MapIs.frame {S : Nat → Prop} {w' : World} (h : MapIs P k w m F) (hc : Chg S w w') (hn : ¬ S m) : MapIs P k w' m F := h.of_block (hc.block m h.lt hn)

theorem MapIs.perm {G : List (Value × Value)} (h : MapIs P k w m F) (hp : F.Perm G) : MapIs P k w m G := by
  obtain ⟨es, clock, hb, hs, hk, hf⟩ := h; exact ⟨es, clock, hb, hs, hk, hf.trans hp⟩

theorem MapIs.fresh (w : World) (P : Program) (k : TypeId) : MapIs P k (w.alloc (.map #[] 0)) w.heap.size [] :=
  ⟨#[], 0, heap_alloc_new w _, stamped_empty 0, by simp, by simp⟩

/-- No key stands twice. -/
theorem MapIs.nodup (h : MapIs P k w m F) : (F.map (·.1)).Nodup := by
  obtain ⟨es, clock, hb, hs, hk, hf⟩ := h
  have h1 := ((stamped_iff es clock).1 hs).2.2
  rw [← (hf.map (·.1)).nodup_iff]
  simp only [List.map_map, List.Nodup, List.pairwise_map]
  exact h1

theorem MapIs.keys (h : MapIs P k w m F) : ∀ p ∈ F, IsKey P k p.1 := by
  obtain ⟨es, clock, hb, hs, hk, hf⟩ := h
  intro p hp
  obtain ⟨e, he, rfl⟩ := List.mem_map.1 (hf.mem_iff.2 hp)
  exact hk e he

theorem find_entry (K : Keyed P k) {es : Array MapEntry} (hk : ∀ e ∈ es.toList, IsKey P k e.key) {key : Value} (hkey : IsKey P k key) (w : World) :
    ((Instr.findKey k key es.toList).run P w = .ok none w ∧ ∀ e ∈ es.toList, e.key ≠ key) ∨ ∃ j e, (Instr.findKey k key es.toList).run P w = .ok (some (j, e.val)) w ∧ es.toList[j]? = some e ∧ e.key = key := by
  obtain ⟨l, hl⟩ := hkey
  exact K.find w hl es.toList hk

theorem MapIs.look_hit (K : Keyed P k) {t e : TypeId} (ht : P.underlying t = some (.map k e)) (h : MapIs P k w m F) {key v : Value} (hkey : IsKey P k key) (hv : (key, v) ∈ F) (c : Bool) :
    ∀ w' : World, blk w' m = blk w m → (Instr.lookup t (.map (some m)) key c).run P w' = .ok (if c then .tuple #[v, .bool true] else v) w' := by
  obtain ⟨es, clock, hb, hs, hk, hf⟩ := h
  intro w' he
  have hb' := he.trans hb
  have hp := ((stamped_iff es clock).1 hs).2.2
  obtain ⟨e1, he1, hev⟩ := List.mem_map.1 (hf.mem_iff.2 hv)
  simp only [Prod.mk.injEq] at hev
  rcases find_entry K hk hkey w' with ⟨h1, h2⟩ | ⟨j, e0, h1, h2, h3⟩
  · exact absurd hev.1 (h2 e1 he1)
  · have : e0 = e1 := entry_eq_of_key hp (List.mem_of_getElem? h2) he1 (h3.trans hev.1.symm)
    obtain ⟨l, hl⟩ := hkey
    simp [Instr.lookup, run_underlying ht, MapKept.run_getObj_map hb', K.check w' _ hl, h1, Result.andThen, this, hev.2]

theorem MapIs.look_miss (K : Keyed P k) {t e : TypeId} (ht : P.underlying t = some (.map k e)) {z : Value} (hz : ∀ w, (zeroValue e).run P w = .ok z w) (h : MapIs P k w m F) {key : Value} (hkey : IsKey P k key) (hv : ∀ p ∈ F, p.1 ≠ key) (c : Bool) :
    ∀ w' : World, blk w' m = blk w m → (Instr.lookup t (.map (some m)) key c).run P w' = .ok (if c then .tuple #[z, .bool false] else z) w' := by
  obtain ⟨es, clock, hb, hs, hk, hf⟩ := h
  intro w' he
  have hb' := he.trans hb
  rcases find_entry K hk hkey w' with ⟨h1, h2⟩ | ⟨j, e0, h1, h2, h3⟩
  · obtain ⟨l, hl⟩ := hkey
    simp [Instr.lookup, run_underlying ht, MapKept.run_getObj_map hb', K.check w' _ hl, h1, hz, Result.andThen]
  · exact absurd h3 (hv (e0.key, e0.val) (hf.mem_iff.1 (List.mem_map.2 ⟨e0, List.mem_of_getElem? h2, rfl⟩)))

/-- What a list of pairs is behind a store at a key. -/
theorem MapIs.put_miss (K : Keyed P k) {t e : TypeId} (ht : P.underlying t = some (.map k e)) (h : MapIs P k w m F) {key : Value} (hkey : IsKey P k key) (hv : ∀ p ∈ F, p.1 ≠ key) (v : Value) :
    ∃ o, (∀ w' : World, blk w' m = blk w m → (Instr.mapUpdate t (.map (some m)) key v).run P w' = .ok () (setBlock w' m o)) ∧
      ∀ w' : World, blk w' m = some o → MapIs P k w' m ((key, v) :: F) := by
  obtain ⟨es, clock, hb, hs, hk, hf⟩ := h
  have hno : ∀ x ∈ es.toList, x.key ≠ key := fun x hx => hv (x.key, x.val) (hf.mem_iff.1 (List.mem_map.2 ⟨x, hx, rfl⟩))
  refine ⟨.map (es.push ⟨key, v, clock⟩) (clock + 1), fun w' he => ?_, fun w' he => ⟨_, _, he, stamped_push hs hno, ?_, ?_⟩⟩
  · have hb' := he.trans hb
    rcases find_entry K hk hkey w' with ⟨h1, h2⟩ | ⟨j, e0, h1, h2, h3⟩
    · obtain ⟨l, hl⟩ := hkey
      simp [Instr.mapUpdate, run_underlying ht, MapKept.run_getObj_map hb', K.check w' false hl, h1, MapKept.run_setObj_map _ hb', Result.andThen, setBlock]
    · exact absurd h3 (hno e0 (List.mem_of_getElem? h2))
  · intro x hx
    simp only [Array.toList_push, List.mem_append, List.mem_singleton] at hx
    rcases hx with hx | rfl
    · exact hk x hx
    · exact hkey
  · simp only [Array.toList_push, List.map_append, List.map_cons, List.map_nil]
    exact (List.perm_append_singleton _ _).trans (hf.cons _)

theorem MapIs.put_hit (K : Keyed P k) {t e : TypeId} (ht : P.underlying t = some (.map k e)) {G : List (Value × Value)} {key old : Value} (h : MapIs P k w m F) (hkey : IsKey P k key) (hF : F.Perm ((key, old) :: G)) (v : Value) :
    ∃ o, (∀ w' : World, blk w' m = blk w m → (Instr.mapUpdate t (.map (some m)) key v).run P w' = .ok () (setBlock w' m o)) ∧
      ∀ w' : World, blk w' m = some o → MapIs P k w' m ((key, v) :: G) := by
  obtain ⟨es, clock, hb, hs, hk, hf⟩ := h
  have hp := ((stamped_iff es clock).1 hs).2.2
  have hmem : (key, old) ∈ F := hF.mem_iff.2 (by simp)
  obtain ⟨e1, he1, hev⟩ := List.mem_map.1 (hf.mem_iff.2 hmem)
  simp only [Prod.mk.injEq] at hev
  rcases find_entry K hk hkey w with ⟨h1, h2⟩ | ⟨j, e0, h1, h2, h3⟩
  · exact absurd hev.1 (h2 e1 he1)
  · have h01 : e0 = e1 := entry_eq_of_key hp (List.mem_of_getElem? h2) he1 (h3.trans hev.1.symm)
    have hj : es[j]? = some e0 := by simpa using h2
    have hjl : j < es.toList.length := (List.getElem?_eq_some_iff.1 h2).1
    have hlist : (es.modify j (fun e' => { e' with key := key, val := v })).toList = es.toList.set j { e0 with key := key, val := v } := by rw [Array.toList_modify, modify_eq_set _ _ _ _ h2]
    refine ⟨.map (es.modify j (fun e' => { e' with key := key, val := v })) clock, fun w' he => ?_, fun w' he => ⟨_, _, he, stamped_modify hs _ _ (fun _ _ => rfl) (fun e' _ he' => by rw [hj] at he'; cases he'; exact h3.symm), ?_, ?_⟩⟩
    · have hb' := he.trans hb
      rcases find_entry K hk hkey w' with ⟨g1, g2⟩ | ⟨j', e0', g1, g2, g3⟩
      · exact absurd h3 (g2 e0 (List.mem_of_getElem? h2))
      · have hj' : j' = j := by
          have hjl' : j' < es.toList.length := (List.getElem?_eq_some_iff.1 g2).1
          have e1 : es.toList[j'] = e0' := (List.getElem?_eq_some_iff.1 g2).2
          have e2 : es.toList[j] = e0 := (List.getElem?_eq_some_iff.1 h2).2
          rcases Nat.lt_trichotomy j' j with h | h | h
          · exact absurd (by rw [e1, e2, g3, h3] : es.toList[j'].key = es.toList[j].key) (List.pairwise_iff_getElem.1 hp j' j hjl' hjl h)
          · exact h
          · exact absurd (by rw [e1, e2, g3, h3] : es.toList[j].key = es.toList[j'].key) (List.pairwise_iff_getElem.1 hp j j' hjl hjl' h)
        subst hj'
        obtain ⟨l, hl⟩ := hkey
        simp [Instr.mapUpdate, run_underlying ht, MapKept.run_getObj_map hb', K.check w' false hl, g1, hj, h3, K.stays w' hl, MapKept.run_setObj_map _ hb', Result.andThen, setBlock]
    · intro x hx
      rw [hlist] at hx
      rcases List.mem_or_eq_of_mem_set hx with hx | rfl
      · exact hk x hx
      · exact hkey
    · rw [hlist, List.map_set]
      have e1 := ChangeMaps.set_perm (es.toList.map fun e => (e.key, e.val)) j (by simpa using hjl) (key, v)
      refine e1.trans (List.Perm.cons _ ?_)
      have e2 := ChangeMaps.set_perm (es.toList.map fun e => (e.key, e.val)) j (by simpa using hjl) (key, old)
      have e3 : (es.toList.map fun e => (e.key, e.val)).set j (key, old) = es.toList.map fun e => (e.key, e.val) := by
        apply List.ext_getElem?
        intro i
        rw [List.getElem?_set]
        split
        · rename_i hij
          subst hij
          simp [hj, h01, hev.1, hev.2]
          omega
        · rfl
      rw [e3] at e2
      exact List.Perm.cons_inv (e2.symm.trans (hf.trans hF))

theorem MapIs.drop_miss (K : Keyed P k) {t e : TypeId} (ht : P.underlying t = some (.map k e)) (h : MapIs P k w m F) {key : Value} (hkey : IsKey P k key) (hv : ∀ p ∈ F, p.1 ≠ key) (ty : TypeId) :
    ∃ o, (∀ w' : World, blk w' m = blk w m → (Builtin.delete_ #[t, k] ty #[.map (some m), key]).run P w' = .ok (.tuple #[]) (setBlock w' m o)) ∧
      ∀ w' : World, blk w' m = some o → MapIs P k w' m F := by
  obtain ⟨es, clock, hb, hs, hk, hf⟩ := h
  refine ⟨.map es clock, fun w' he => ?_, fun w' he => ⟨_, _, he, hs, hk, hf⟩⟩
  have hb' := he.trans hb
  rcases find_entry K hk hkey w' with ⟨h1, h2⟩ | ⟨j, e0, h1, h2, h3⟩
  · obtain ⟨l, hl⟩ := hkey
    simp [Builtin.delete_, run_underlying ht, MapKept.run_getObj_map hb', K.check w' _ hl, h1, MapKept.run_setObj_map _ hb', Result.andThen, setBlock]
  · exact absurd h3 (hv (e0.key, e0.val) (hf.mem_iff.1 (List.mem_map.2 ⟨e0, List.mem_of_getElem? h2, rfl⟩)))

theorem MapIs.drop_hit (K : Keyed P k) {t e : TypeId} (ht : P.underlying t = some (.map k e)) {G : List (Value × Value)} {key old : Value} (h : MapIs P k w m F) (hkey : IsKey P k key) (hF : F.Perm ((key, old) :: G)) (ty : TypeId) :
    ∃ o, (∀ w' : World, blk w' m = blk w m → (Builtin.delete_ #[t, k] ty #[.map (some m), key]).run P w' = .ok (.tuple #[]) (setBlock w' m o)) ∧
      ∀ w' : World, blk w' m = some o → MapIs P k w' m G := by
  obtain ⟨es, clock, hb, hs, hk, hf⟩ := h
  have hp := ((stamped_iff es clock).1 hs).2.2
  have hmem : (key, old) ∈ F := hF.mem_iff.2 (by simp)
  obtain ⟨e1, he1, hev⟩ := List.mem_map.1 (hf.mem_iff.2 hmem)
  simp only [Prod.mk.injEq] at hev
  rcases find_entry K hk hkey w with ⟨h1, h2⟩ | ⟨j, e0, h1, h2, h3⟩
  · exact absurd hev.1 (h2 e1 he1)
  · have h01 : e0 = e1 := entry_eq_of_key hp (List.mem_of_getElem? h2) he1 (h3.trans hev.1.symm)
    have hj : es[j]? = some e0 := by simpa using h2
    have hjl : j < es.toList.length := (List.getElem?_eq_some_iff.1 h2).1
    have hsub : (es.eraseIdxIfInBounds j).toList = es.toList.eraseIdx j := by
      unfold Array.eraseIdxIfInBounds
      rw [dif_pos (by simpa using hjl)]
      simp
    refine ⟨.map (es.eraseIdxIfInBounds j) clock, fun w' he => ?_, fun w' he => ⟨_, _, he, stamped_erase hs j, ?_, ?_⟩⟩
    · have hb' := he.trans hb
      rcases find_entry K hk hkey w' with ⟨g1, g2⟩ | ⟨j', e0', g1, g2, g3⟩
      · exact absurd h3 (g2 e0 (List.mem_of_getElem? h2))
      · have hj' : j' = j := by
          have hjl' : j' < es.toList.length := (List.getElem?_eq_some_iff.1 g2).1
          have e1 : es.toList[j'] = e0' := (List.getElem?_eq_some_iff.1 g2).2
          have e2 : es.toList[j] = e0 := (List.getElem?_eq_some_iff.1 h2).2
          rcases Nat.lt_trichotomy j' j with h | h | h
          · exact absurd (by rw [e1, e2, g3, h3] : es.toList[j'].key = es.toList[j].key) (List.pairwise_iff_getElem.1 hp j' j hjl' hjl h)
          · exact h
          · exact absurd (by rw [e1, e2, g3, h3] : es.toList[j].key = es.toList[j'].key) (List.pairwise_iff_getElem.1 hp j j' hjl hjl' h)
        subst hj'
        obtain ⟨l, hl⟩ := hkey
        simp [Builtin.delete_, run_underlying ht, MapKept.run_getObj_map hb', K.check w' _ hl, g1, MapKept.run_setObj_map _ hb', Result.andThen, setBlock]
    · intro x hx
      rw [hsub] at hx
      exact hk x ((List.eraseIdx_sublist _ _).subset hx)
    · rw [hsub]
      have e2 := ChangeMaps.set_perm (es.toList.map fun e => (e.key, e.val)) j (by simpa using hjl) (key, old)
      have e3 : (es.toList.map fun e => (e.key, e.val)).set j (key, old) = es.toList.map fun e => (e.key, e.val) := by
        apply List.ext_getElem?
        intro i
        rw [List.getElem?_set]
        split
        · rename_i hij
          subst hij
          simp [hj, h01, hev.1, hev.2]
          omega
        · rfl
      rw [e3, ← map_eraseIdx] at e2
      exact List.Perm.cons_inv (e2.symm.trans (hf.trans hF))

theorem MapIs.run_len (h : MapIs P k w m F) {t e : TypeId} (ht : P.underlying t = some (.map k e)) (ty : TypeId) : ∀ w' : World, blk w' m = blk w m → (Builtin.len_ #[t] ty #[.map (some m)]).run P w' = .ok (.int .i64 (F.length : Int)) w' := by
  obtain ⟨es, clock, hb, hs, hk, hf⟩ := h
  intro w' he
  have := hf.length_eq
  simp only [List.length_map, Array.length_toList] at this
  simp [Builtin.len_, run_underlying ht, MapKept.run_getObj_map (he.trans hb), Result.andThen, ← this, goInt]

theorem MapIs.run_clear (h : MapIs P k w m F) {t e : TypeId} (ht : P.underlying t = some (.map k e)) (ty : TypeId) :
    ∃ o, (∀ w' : World, blk w' m = blk w m → (Builtin.clear_ #[t] ty #[.map (some m)]).run P w' = .ok (.tuple #[]) (setBlock w' m o)) ∧
      ∀ w' : World, blk w' m = some o → MapIs P k w' m [] := by
  obtain ⟨es, clock, hb, hs, hk, hf⟩ := h
  refine ⟨.map #[] clock, fun w' he => ?_, fun w' he => ⟨_, _, he, ⟨by simp, by simp, by simp⟩, by simp, by simp⟩⟩
  simp [Builtin.clear_, run_underlying ht, MapKept.run_getObj_map (he.trans hb), MapKept.run_setObj_map _ (he.trans hb), Result.andThen, setBlock]

end
end Go.Cl
