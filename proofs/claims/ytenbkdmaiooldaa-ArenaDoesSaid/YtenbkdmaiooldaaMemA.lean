/- Contracts of package memory's New, Pages, place, word: a memory is two blocks and its pages'. No condition. -/
import Derived.Test.YtenbkdmaiooldaaProg
import Derived.Test.YtenbkdmaiooldaaLibMaps
import Derived.Lib.Hide
namespace Go.Proofs.Ytenbkdmaiooldaa
open Go.RowKit Go.Cl
open Go.Maps (Keyed)
open Go.ChangeMaps (setBlock)
set_option linter.unusedVariables false
set_option linter.unusedSimpArgs false
attribute [local go_sem] lt_add_one' blk_alloc_past blk_alloc_at blk_drew blk_setCell_ne blk_setBlock_ne blk_setBlock_eq cell_setBlock_ne frozen_setBlock_ne size_setBlock

theorem pageKeyed : Keyed Try.prog 22 := Maps.int_keyed Try.underlying22
theorem isKey_page {k : Nat} (h : k < 4294967296) : IsKey Try.prog 22 (.int .u32 k) :=
  ⟨_, Maps.keyOf_int_mk Try.underlying22 (by simp [Lit.wf, IntKind.min, IntKind.max, IntKind.signed, IntKind.bits]; omega)⟩

def ptrV (b : Nat) : Value := .pointer (some ⟨b, 0, none⟩)

/-- The cells of page k of a memory of bytes f. -/
def pageCells (f : Nat → Int) (k : Nat) : List Value := (List.range 4096).map fun i => .int .u8 (f (k * 4096 + i))

theorem length_pageCells (f : Nat → Int) (k : Nat) : (pageCells f k).length = 4096 := by simp [pageCells]
theorem getElem_pageCells (f : Nat → Int) (k i : Nat) (h : i < 4096) : (pageCells f k)[i]? = some (.int .u8 (f (k * 4096 + i))) := by
  simp [pageCells, h]
theorem pageCells_congr {f f' : Nat → Int} {k : Nat} (h : ∀ i, i < 4096 → f (k * 4096 + i) = f' (k * 4096 + i)) : pageCells f k = pageCells f' k := by
  unfold pageCells
  refine List.map_congr_left fun i hi => ?_
  rw [h i (by simpa using hi)]

/-- Blocks b (the struct), m (the map) and the pages' of w are a memory of so many pages with the bytes f. -/
structure MemIs (w : World) (b m : Nat) (pg : List (Nat × Nat)) (pages : Nat) (f : Nat → Int) : Prop where
  st : blk w b = some (.cells #[.int .i64 pages, .map (some m)] 98 (0, 0))
  ne : b ≠ m
  mp : MapIs Try.prog 22 w m (pg.map fun q => (.int .u32 (q.1 : Int), ptrV q.2))
  pgs : ∀ q ∈ pg, blk w q.2 = some (.cells (pageCells f q.1).toArray 116 (0, 0))
  keys : (pg.map (·.1)).Nodup
  blks : (pg.map (·.2)).Nodup
  inn : ∀ q ∈ pg, q.1 < pages
  out : ∀ a, a / 4096 ∉ pg.map (·.1) → f a = 0
  byte : ∀ a, 0 ≤ f a ∧ f a ≤ 255
  size : 1 ≤ pages ∧ pages ≤ 4096

/-- A memory's own blocks. -/
def Foot (b m : Nat) (pg : List (Nat × Nat)) (i : Nat) : Prop := i = b ∨ i = m ∨ i ∈ pg.map (·.2)

theorem MemIs.lt {w : World} {b m : Nat} {pg : List (Nat × Nat)} {pages : Nat} {f : Nat → Int} (h : MemIs w b m pg pages f) : ∀ i, Foot b m pg i → i < w.heap.size := by
  rintro i (rfl | rfl | hi)
  · exact blk_lt h.st
  · exact h.mp.lt
  · obtain ⟨q, hq, rfl⟩ := List.mem_map.1 hi
    exact blk_lt (h.pgs q hq)

theorem MemIs.frame {S : Nat → Prop} {w w' : World} {b m : Nat} {pg : List (Nat × Nat)} {pages : Nat} {f : Nat → Int} (h : MemIs w b m pg pages f) (hc : Chg S w w') (hs : ∀ i, Foot b m pg i → ¬ S i) : MemIs w' b m pg pages f :=
  ⟨hc.blk' h.st (hs b (.inl rfl)), h.ne, h.mp.frame hc (hs m (.inr (.inl rfl))), fun q hq => hc.blk' (h.pgs q hq) (hs _ (.inr (.inr (List.mem_map.2 ⟨q, hq, rfl⟩)))), h.keys, h.blks, h.inn, h.out, h.byte, h.size⟩

/-- A page's block is neither the struct's nor the map's. -/
theorem MemIs.apart {w : World} {b m : Nat} {pg : List (Nat × Nat)} {pages : Nat} {f : Nat → Int} (h : MemIs w b m pg pages f) : ∀ q ∈ pg, q.2 ≠ b ∧ q.2 ≠ m := by
  intro q hq
  have h1 := h.pgs q hq
  constructor
  · intro e
    rw [e, h.st] at h1
    simp only [Option.some.injEq, Obj.cells.injEq] at h1
    exact absurd h1.2.1 (by decide)
  · intro e
    obtain ⟨es, clock, hb, _⟩ := h.mp
    have h2 : blk w m = some (.map es clock) := hb
    rw [e, h2] at h1
    simp at h1

theorem MemIs.facts {w : World} {b m : Nat} {pg : List (Nat × Nat)} {pages : Nat} {f : Nat → Int} (h : MemIs w b m pg pages f) :
    b < w.heap.size ∧ m < w.heap.size ∧ w.cell? ⟨b, 0, none⟩ = some (.int .i64 pages) ∧ w.cell? ⟨b, 1, none⟩ = some (.map (some m)) :=
  ⟨blk_lt h.st, h.mp.lt, cell_of_blk h.st 0, cell_of_blk h.st 1⟩

/-- What New answers. -/
def NewPost (w : World) (n : Nat) (e : Ending) (w' : World) : Prop := ∃ b m, e = .returned (.tuple #[ptrV b, .int .i64 0]) ∧ MemIs w' b m [] n (fun _ => 0) ∧ w.heap.size ≤ b ∧ w.heap.size ≤ m ∧ Chg (fun _ => False) w w'

theorem new_ok (n : Nat) (h1 : 1 ≤ n) (h2 : n ≤ 4096) (w : World) :
    Calls Try.prog 13 #[.int .i64 n] w (NewPost w n) := by
  have hmm := @run_makeMap Try.prog
  have a1 : ¬ ((n : Int) < 1) := by omega
  have a2 : ¬ ((4096 : Int) < n) := by omega
  go_enter Try.func13, Try.ntmps13
  go_wp2
  go_ret2
  refine ⟨w.heap.size + 1, w.heap.size, rfl, ⟨blk_alloc_at _ _ _ (by simp), by simp, ?_, by simp, by simp, by simp, by simp, by simp, by simp, h1, h2⟩, by simp, Nat.le_refl _, ((Chg.refl _ _).alloc _).alloc _⟩
  exact (MapIs.fresh w _ _).of_block (blk_alloc_past _ _ _ (by simp))

theorem new_bad (n : Int) (h : n < 1 ∨ 4096 < n) (w : World) :
    Calls Try.prog 13 #[.int .i64 n] w fun e w' => e = .returned (.tuple #[.pointer none, .int .i64 20]) ∧ w = w' := by
  rcases h with h | h
  · go_enter Try.func13, Try.ntmps13
    go_wp2
    go_ret2
    exact ⟨rfl, rfl⟩
  · have a1 : ¬ (n < 1) := by omega
    go_enter Try.func13, Try.ntmps13
    go_wp2
    go_ret2
    exact ⟨rfl, rfl⟩

theorem pages_ok {w : World} {b m : Nat} {pg : List (Nat × Nat)} {pages : Nat} {f : Nat → Int} (h : MemIs w b m pg pages f) :
    Calls Try.prog 17 #[ptrV b] w fun e w' => e = .returned (.int .i64 pages) ∧ w = w' := by
  obtain ⟨h1, h2, c0, c1⟩ := h.facts
  unfold ptrV
  go_enter Try.func17, Try.ntmps17
  go_wp2
  go_ret
  exact ⟨rfl, rfl⟩

/-- What is wrong with a place: 0, 20, 22. -/
def placeE (pages : Nat) (a n : Int) : Int := if n < 0 then 20 else if (pages : Int) * 4096 < n ∨ (pages : Int) * 4096 - n < a then 22 else 0

theorem place_ok {w : World} {b m : Nat} {pg : List (Nat × Nat)} {pages : Nat} {f : Nat → Int} (h : MemIs w b m pg pages f) (a n : Int) (ha0 : 0 ≤ a) (ha : a ≤ 4294967295) (hn : -9223372036854775808 ≤ n ∧ n ≤ 9223372036854775807) :
    Calls Try.prog 59 #[ptrV b, .int .u32 a, .int .i64 n] w fun e w' => e = .returned (.int .i64 (placeE pages a n)) ∧ w = w' := by
  obtain ⟨h1, h2, c0, c1⟩ := h.facts
  have hp := h.size
  unfold ptrV
  obtain ⟨hn1, hn2⟩ := hn
  obtain ⟨hp1, hp2⟩ := hp
  clear h
  by_cases g1 : n < 0
  · have e : placeE pages a n = 20 := by simp [placeE, g1]
    rw [e]
    clear e
    go_enter Try.func59, Try.ntmps59
    go_wp2
    go_ret
    exact ⟨rfl, rfl⟩
  · by_cases g2 : (pages : Int) * 4096 < n
    · have e : placeE pages a n = 22 := by simp [placeE, g1, g2]
      rw [e]
      clear e
      go_enter Try.func59, Try.ntmps59
      go_wp2
      go_ret
      exact ⟨rfl, rfl⟩
    · by_cases g3 : (pages : Int) * 4096 - n < a
      · have e : placeE pages a n = 22 := by simp [placeE, g1, g3]
        rw [e]
        clear e
        go_enter Try.func59, Try.ntmps59
        go_wp2
        go_ret
        exact ⟨rfl, rfl⟩
      · have e : placeE pages a n = 0 := by simp [placeE, g1, g2, g3]
        rw [e]
        clear e
        go_enter Try.func59, Try.ntmps59
        go_wp2
        go_ret
        exact ⟨rfl, rfl⟩

/-- What is wrong with a word's place. -/
def wordE (pages : Nat) (a n : Int) : Int := if n ≠ 1 ∧ n ≠ 2 ∧ n ≠ 4 then 20 else if a % n ≠ 0 then 21 else placeE pages a n

theorem word_ok {w : World} {b m : Nat} {pg : List (Nat × Nat)} {pages : Nat} {f : Nat → Int} (h : MemIs w b m pg pages f) (a n : Int) (ha0 : 0 ≤ a) (ha : a ≤ 4294967295) (hn : n = 1 ∨ n = 2 ∨ n = 4) :
    Calls Try.prog 48 #[ptrV b, .int .u32 a, .int .i64 n] w fun e w' => e = .returned (.int .i64 (wordE pages a n)) ∧ w = w' := by
  have P := fun n hn => place_ok h a n ha0 ha hn
  unfold ptrV at *
  rcases hn with rfl | rfl | rfl
  · have e : wordE pages a 1 = placeE pages a 1 := by simp [wordE]
    rw [e]
    clear e h
    go_enter Try.func48, Try.ntmps48
    go_wp2_with fail
    refine (P 1 (by omega)).mono ?_
    rintro e w' ⟨rfl, rfl⟩
    go_wp2
    go_ret
    exact ⟨rfl, rfl⟩
  · by_cases g : a % 2 = 0
    · have e : wordE pages a 2 = placeE pages a 2 := by simp [wordE, g]
      rw [e]
      clear e h
      go_enter Try.func48, Try.ntmps48
      go_wp2_with fail
      refine (P 2 (by omega)).mono ?_
      rintro e w' ⟨rfl, rfl⟩
      go_wp2
      go_ret
      exact ⟨rfl, rfl⟩
    · have e : wordE pages a 2 = 21 := by simp [wordE, g]
      rw [e]
      clear e h P
      go_enter Try.func48, Try.ntmps48
      go_wp2
      go_ret
      exact ⟨rfl, rfl⟩
  · by_cases g : a % 4 = 0
    · have e : wordE pages a 4 = placeE pages a 4 := by simp [wordE, g]
      rw [e]
      clear e h
      go_enter Try.func48, Try.ntmps48
      go_wp2_with fail
      refine (P 4 (by omega)).mono ?_
      rintro e w' ⟨rfl, rfl⟩
      go_wp2
      go_ret
      exact ⟨rfl, rfl⟩
    · have e : wordE pages a 4 = 21 := by simp [wordE, g]
      rw [e]
      clear e h P
      go_enter Try.func48, Try.ntmps48
      go_wp2
      go_ret
      exact ⟨rfl, rfl⟩

theorem word_bad {w : World} {b : Nat} (pages : Nat) (a n : Int) (hn : ¬ (n = 1 ∨ n = 2 ∨ n = 4)) :
    Calls Try.prog 48 #[ptrV b, .int .u32 a, .int .i64 n] w fun e w' => e = .returned (.int .i64 (wordE pages a n)) ∧ w = w' := by
  have e : wordE pages a n = 20 := by unfold wordE; rw [if_pos (by omega)]
  have n1 : (n == 1) = false := by simp; omega
  have n2 : (n == 2) = false := by simp; omega
  have n3 : (n == 4) = false := by simp; omega
  have m1 : (n != 1) = true := by simp; omega
  have m2 : (n != 2) = true := by simp; omega
  have m3 : (n != 4) = true := by simp; omega
  rw [e]
  clear e hn
  go_enter Try.func48, Try.ntmps48
  go_wp2
  go_ret
  exact ⟨rfl, rfl⟩
end Go.Proofs.Ytenbkdmaiooldaa
