/- Contract of package memory's read: the bytes of a place in a row of their own. -/
import Derived.Test.YtenbkdmaiooldaaMemC
namespace Go.Proofs.Ytenbkdmaiooldaa
open Go.RowKit Go.Cl
open Go.Maps (Keyed)
open Go.ChangeMaps (setBlock)
set_option linter.unusedVariables false
set_option linter.unusedSimpArgs false
attribute [local go_sem] lt_add_one' blk_alloc_past blk_alloc_at blk_drew blk_setCell_ne blk_setBlock_ne blk_setBlock_eq cell_setBlock_ne frozen_setBlock_ne size_setBlock

/-- A row of bytes. -/
def rowCells (h : Nat → Int) (n : Nat) : List Value := (List.range n).map fun i => .int .u8 (h i)

theorem length_rowCells (h : Nat → Int) (n : Nat) : (rowCells h n).length = n := by simp [rowCells]
theorem getElem_rowCells (h : Nat → Int) (n i : Nat) (hi : i < n) : (rowCells h n)[i]? = some (.int .u8 (h i)) := by
  simp [rowCells, hi]
theorem rowCells_congr {h h' : Nat → Int} {n : Nat} (e : ∀ i, i < n → h i = h' i) : rowCells h n = rowCells h' n := by
  unfold rowCells
  refine List.map_congr_left fun i hi => ?_
  rw [e i (by simpa using hi)]

theorem splice_row {h : Nat → Int} {n d e : Nat} {g : Nat → Int} (hde : d + e ≤ n) :
    (rowCells h n).take d ++ ((List.range e).map fun j => Value.int .u8 (g j)) ++ (rowCells h n).drop (d + ((List.range e).map fun j => Value.int .u8 (g j)).length) = rowCells (put h d e g) n := by
  apply List.ext_getElem?
  intro i
  by_cases hi : i < n
  · rw [getElem_rowCells _ _ _ hi]
    unfold put
    by_cases h1 : i < d
    · rw [List.append_assoc, List.getElem?_append_left (by simp [length_rowCells]; omega), List.getElem?_take_of_lt h1, getElem_rowCells _ _ _ hi, if_neg (by omega)]
    · by_cases h2 : i < d + e
      · rw [List.append_assoc, List.getElem?_append_right (by simp [length_rowCells]; omega), List.getElem?_append_left (by simp [length_rowCells]; omega), if_pos (by omega)]
        have e1 : i - (List.take d (rowCells h n)).length = i - d := by rw [List.length_take, length_rowCells]; omega
        rw [e1]
        simp only [List.getElem?_map, List.getElem?_range (show i - d < e by omega), Option.map_some]
      · rw [List.getElem?_append_right (by simp [length_rowCells]; omega), List.getElem?_drop, if_neg (by omega), ← getElem_rowCells _ _ _ hi]
        congr 1
        simp only [List.length_append, List.length_take, length_rowCells, List.length_map, List.length_range]
        omega
  · rw [List.getElem?_eq_none (by simp only [List.length_append, List.length_take, List.length_drop, length_rowCells, List.length_map, List.length_range]; omega), List.getElem?_eq_none (by rw [length_rowCells]; omega)]

theorem info5e : (Try.prog.info? 5).map (fun i => (i.zero, i.size, i.bytes)) = some (some (.int .u8 0), 1, 1) := by kernel_rfl
theorem info5z : ∃ i, Try.prog.info? 5 = some i ∧ i.zero = some (.int .u8 0) ∧ i.size = 1 ∧ i.bytes = 1 := by
  obtain ⟨i, hi, h⟩ := Option.map_eq_some_iff.1 info5e
  simp only [Prod.mk.injEq] at h
  exact ⟨i, hi, h⟩

theorem make_bytes (n : Nat) (hn : n ≤ 281474976710656) : ∀ w' : World, (Instr.makeSlice 58 (.int .i64 n) (.int .i64 n)).run Try.prog w' = .ok (.slice (some ⟨w'.heap.size, 0, none⟩) n n) (w'.alloc (.cells (rowCells (fun _ => 0) n).toArray 5 (0, 0))) := fun w' => by
  obtain ⟨i, hi, hz, hs, hb⟩ := info5z
  have := run_make (P := Try.prog) w' 58 5 i (.int .u8 0) Try.underlying58 hi hz .i64 .i64 n n (by omega) (Int.le_refl _) (by rw [hb]; omega) (by omega)
  rw [this, hs]
  simp only [Int.toNat_natCast, Nat.mul_one]
  have e : madeCells (Value.int .u8 0).cells n = (rowCells (fun _ => 0) n).toArray := by
    apply Array.ext'
    apply List.ext_getElem?
    intro j
    by_cases hj : j < n
    · rw [getElem_rowCells _ _ _ hj]
      simp [madeCells, hj, Value.cells, Nat.mod_one]
    · rw [List.getElem?_eq_none (by simp [madeCells]; omega), List.getElem?_eq_none (by rw [length_rowCells]; omega)]
  rw [e]

theorem rd_part {w : World} {p k : Nat} {f h : Nat → Int} {g n done fr tt : Nat} (hp : blk w p = some (.cells (pageCells f k).toArray 116 (0, 0))) (hg : blk w g = some (.cells (rowCells h n).toArray 5 (0, 0))) (hd : done < n) (hft : fr < tt) (ht : tt ≤ 4096) (hn : tt - fr ≤ n - done) (w' : World)
    (h1 : blk w' p = blk w p) (h2 : blk w' g = blk w g) : (Builtin.copy_ #[58, 58] 3 #[.slice (some ⟨g, done, none⟩) (n - done) (n - done), .slice (some ⟨p, fr, none⟩) (tt - fr) (4096 - fr)]).run Try.prog w' =
      .ok (.int .i64 ((tt - fr : Nat) : Int)) (w'.setRow g (rowCells (put h done (tt - fr) (fun j => f (k * 4096 + fr + j))) n).toArray) := by
  have hcs : ((List.range (tt - fr)).map fun j => Value.int .u8 (f (k * 4096 + fr + j))).length = Nat.min (tt - fr) (n - done) := by simp; exact (Nat.min_eq_left hn).symm
  have := run_copy_row (P := Try.prog) w' 58 58 3 5 g done (n - done) (n - done) ⟨p, fr, none⟩ (tt - fr) (4096 - fr) (rowCells h n).toArray 5 ((List.range (tt - fr)).map fun j => Value.int .u8 (f (k * 4096 + fr + j))) Try.underlying58 info5 (h2.trans hg) hcs
    (fun j v hv => by
      have hj : j < tt - fr := by have := (List.getElem?_eq_some_iff.1 hv).1; simpa using this
      simp [hj] at hv
      subst hv
      have e : (⟨p, fr, none⟩ : Addr).add j = ⟨p, fr + j, none⟩ := by
        simp only [Addr.add]
        split
        · rename_i h0; rw [h0]; rfl
        · rfl
      rw [e, cell_of_blk (h1.trans hp), List.getElem?_toArray, getElem_pageCells _ _ _ (by omega)]
      rw [Nat.add_assoc])
    (by simp [length_rowCells]; omega)
    (fun v hv => by
      obtain ⟨j, _, rfl⟩ := List.mem_map.1 hv
      rfl)
  rw [this, List.toList_toArray, splice_row (by omega)]
  simp [goInt]

set_option maxHeartbeats 1000000 in
set_option maxRecDepth 100000 in
theorem rd_hit {w : World} {b m : Nat} {pg : List (Nat × Nat)} {pages : Nat} {f h : Nat → Int} (hm : MemIs w b m pg pages f) {x3 x5 g n : Nat} (h3 : blk w x3 = some (.cells #[ptrV b] 24 (0, 0))) (h5 : blk w x5 = some (.cells #[.slice (some ⟨g, 0, none⟩) n n] 58 (0, 0)))
    (hg : blk w g = some (.cells (rowCells h n).toArray 5 (0, 0))) (hnm : n ≤ 281474976710656) {k p fr tt done : Nat} (hkp : (k, p) ∈ pg) (hft : fr < tt) (ht : tt ≤ 4096) (hd : done < n) (hn : tt - fr ≤ n - done) :
    Calls Try.prog 79 #[.int .u32 k, .int .i64 fr, .int .i64 tt, .int .i64 done, .pointer (some ⟨x3, 0, none⟩), .pointer (some ⟨x5, 0, none⟩)] w fun e w' => e = .returned (.tuple #[]) ∧ blk w' g = some (.cells (rowCells (put h done (tt - fr) (fun j => f (k * 4096 + fr + j))) n).toArray 5 (0, 0)) ∧ Chg (fun i => i = g) w w' := by
  have hk : k < 4096 := by have := hm.inn _ hkp; have := hm.size; simp at *; omega
  have hps := hm.pgs _ hkp
  have hlk := mem_look hm hk hkp
  have hsl := slice_page (p := p) hft ht
  have hcp := rd_part hps hg hd hft ht hn w.drew (blk_drew _ _) (blk_drew _ _)
  obtain ⟨b1, m1, c0, c1⟩ := hm.facts
  have y3 := cell_of_blk h3 0
  have y5 := cell_of_blk h5 0
  have e1 : ¬ (n = done) := by omega
  have e2 : fr ≤ tt := by omega
  have e3 : done ≤ n := by omega
  have e5 : ¬ (4096 = fr) := by omega
  have e6 : n ≤ 9223372036854775807 := by omega
  simp only [List.getElem?_toArray, List.getElem?_cons_zero, ptrV] at y3 y5
  have HG := Lib.hid hg
  clear hm h3 h5 hps hg
  go_enter Try.func79, Try.ntmps79
  go_wp2
  go_region
  go_end0
  exact ⟨rfl, blk_setRow_eq _ _ _ _ _ _ ((blk_drew _ _).trans HG.out), chg_setRow (Chg.refl _ _).drew (by simp) _⟩

set_option maxHeartbeats 1000000 in
set_option maxRecDepth 100000 in
theorem rd_miss {w : World} {b m : Nat} {pg : List (Nat × Nat)} {pages : Nat} {f : Nat → Int} (hm : MemIs w b m pg pages f) {x3 x5 : Nat} (h3 : blk w x3 = some (.cells #[ptrV b] 24 (0, 0)))
    {k : Nat} {v1 v2 v3 : Value} (hk : k < 4096) (hno : k ∉ pg.map (·.1)) :
    Calls Try.prog 79 #[.int .u32 k, v1, v2, v3, .pointer (some ⟨x3, 0, none⟩), .pointer (some ⟨x5, 0, none⟩)] w fun e w' => e = .returned (.tuple #[]) ∧ w = w' := by
  have hlk := mem_miss hm hk hno
  obtain ⟨b1, m1, c0, c1⟩ := hm.facts
  have y3 := cell_of_blk h3 0
  simp only [List.getElem?_toArray, List.getElem?_cons_zero, ptrV] at y3
  clear hm h3
  go_enter Try.func79, Try.ntmps79
  go_wp2
  go_end0
  exact ⟨rfl, rfl⟩

/-- Behind some bytes read. -/
def ReadTo (w w' : World) (g n a done : Nat) (f : Nat → Int) : Prop :=
  blk w' g = some (.cells (rowCells (put (fun _ => 0) 0 done (fun j => f (a + j))) n).toArray 5 (0, 0)) ∧ Chg (fun i => i = g) w w'

theorem read_round {w1 w' : World} {b m : Nat} {pg : List (Nat × Nat)} {pages : Nat} {f : Nat → Int} (hm : MemIs w1 b m pg pages f) {x3 x5 g n : Nat} (h3 : blk w1 x3 = some (.cells #[ptrV b] 24 (0, 0))) (h5 : blk w1 x5 = some (.cells #[.slice (some ⟨g, 0, none⟩) n n] 58 (0, 0)))
    (hg : ¬ Foot b m pg g) (hg3 : x3 ≠ g) (hg5 : x5 ≠ g) (hnm : n ≤ 281474976710656) {a done : Nat} (ha : a + n ≤ pages * 4096) (hd : done < n) (h : ReadTo w1 w' g n a done f) :
    Calls Try.prog 79 #[.int .u32 ((a + done) / 4096 : Nat), .int .i64 ((a + done) % 4096 : Nat), .int .i64 (min 4096 ((a + done) % 4096 + n - done) : Nat), .int .i64 done, .pointer (some ⟨x3, 0, none⟩), .pointer (some ⟨x5, 0, none⟩)] w' fun e w'' =>
      e = .returned (.tuple #[]) ∧ ReadTo w1 w'' g n a (done + (min 4096 ((a + done) % 4096 + n - done) - (a + done) % 4096)) f := by
  obtain ⟨hrow, hc⟩ := h
  have hm' := hm.frame hc fun i hi e => hg (e ▸ hi)
  have hp := hm.size
  have hlt : (a + done) % 4096 < 4096 := Nat.mod_lt _ (by omega)
  have hmin : (a + done) % 4096 < min 4096 ((a + done) % 4096 + n - done) := by
    rw [Nat.lt_min]
    omega
  have hmin1 : min 4096 ((a + done) % 4096 + n - done) ≤ 4096 := Nat.min_le_left _ _
  have hmin2 : min 4096 ((a + done) % 4096 + n - done) ≤ (a + done) % 4096 + n - done := Nat.min_le_right _ _
  generalize min 4096 ((a + done) % 4096 + n - done) = tt at *
  by_cases hin : (a + done) / 4096 ∈ pg.map (·.1)
  · obtain ⟨q, hq, hqk⟩ := List.mem_map.1 hin
    obtain ⟨k, p⟩ := q
    simp only at hqk
    rw [← hqk]
    refine (rd_hit hm' (hc.blk' h3 hg3) (hc.blk' h5 hg5) hrow hnm hq hmin hmin1 hd (by omega)).mono ?_
    rintro e w'' ⟨rfl, hr, hc'⟩
    refine ⟨rfl, ?_, hc.step hc' (fun _ _ h => h) fun _ _ h => h⟩
    rw [hr]
    have e1 : k * 4096 + (a + done) % 4096 = a + done := by omega
    have e2 := put_put (fun _ => 0) 0 done (tt - (a + done) % 4096) (fun j => f (a + j))
    rw [Nat.zero_add] at e2
    rw [e1, ← e2]
    simp only [Nat.add_assoc]
  · have hk : (a + done) / 4096 < 4096 := by omega
    refine (rd_miss hm' (hc.blk' h3 hg3) hk hin).mono ?_
    rintro e w'' ⟨rfl, rfl⟩
    refine ⟨rfl, ?_, hc⟩
    rw [hrow]
    have e1 : rowCells (put (fun _ => 0) 0 done fun j => f (a + j)) n = rowCells (put (fun _ => 0) 0 (done + (tt - (a + done) % 4096)) fun j => f (a + j)) n := by
      refine rowCells_congr fun i hi => ?_
      unfold put
      by_cases c1 : 0 ≤ i ∧ i < 0 + done
      · rw [if_pos c1, if_pos (by omega)]
      · rw [if_neg c1]
        by_cases c2 : 0 ≤ i ∧ i < 0 + (done + (tt - (a + done) % 4096))
        · rw [if_pos c2]
          have := hm.out (a + (i - 0)) (by rw [show (a + (i - 0)) / 4096 = (a + done) / 4096 by omega]; exact hin)
          exact this.symm
        · rw [if_neg c2]
    rw [e1]

set_option maxHeartbeats 1000000 in
set_option maxRecDepth 100000 in
/-- The bytes of a place. -/
theorem read_ok {w : World} {b m : Nat} {pg : List (Nat × Nat)} {pages : Nat} {f : Nat → Int} (h : MemIs w b m pg pages f) {a n : Nat} (ha : a + n ≤ pages * 4096) :
    Calls Try.prog 50 #[ptrV b, .int .u32 a, .int .i64 n] w fun e w' => ∃ g, e = .returned (.slice (some ⟨g, 0, none⟩) n n) ∧ w.heap.size ≤ g ∧ blk w' g = some (.cells (rowCells (fun j => f (a + j)) n).toArray 5 (0, 0)) ∧ Chg (fun _ => False) w w' := by
  have hp := h.size
  have hl0 : ∀ i, Foot b m pg i → i < w.heap.size := h.lt
  have hmk := make_bytes n (by omega)
  have H := Lib.hid h
  have HL := Lib.hid hl0
  clear h hl0
  unfold ptrV at *
  go_enter Try.func50, Try.ntmps50
  go_wp2_with fail
  obtain ⟨w1, hw1⟩ : ∃ w1, w1 = (((w.alloc (.cells #[.pointer (some ⟨b, 0, none⟩)] 24 (0, 0))).alloc (.cells (rowCells (fun _ => 0) n).toArray 5 (0, 0))).alloc (.cells #[.slice (some ⟨w.heap.size + 1, 0, none⟩) n n] 58 (0, 0))) := ⟨_, rfl⟩
  have hc : Chg (fun _ => False) w w1 := by rw [hw1]; exact (((Chg.refl _ _).alloc _).alloc _).alloc _
  have h3 : blk w1 w.heap.size = some (.cells #[ptrV b] 24 (0, 0)) := by
    rw [hw1, blk_alloc_past _ _ _ (by simp; omega), blk_alloc_past _ _ _ (by simp), blk_alloc_at _ _ _ rfl]
    rfl
  have hg : blk w1 (w.heap.size + 1) = some (.cells (rowCells (fun _ => 0) n).toArray 5 (0, 0)) := by
    rw [hw1, blk_alloc_past _ _ _ (by simp), blk_alloc_at _ _ _ (by simp)]
  have h5 : blk w1 (w.heap.size + 1 + 1) = some (.cells #[.slice (some ⟨w.heap.size + 1, 0, none⟩) n n] 58 (0, 0)) := by
    rw [hw1, blk_alloc_at _ _ _ (by simp)]
  rw [← hw1]
  clear hw1
  have hR : ReadTo w1 w1 (w.heap.size + 1) n a 0 f := ⟨by rw [hg, put_none], Chg.refl _ _⟩
  refine (split_any 79 (fun _ _ => rfl) _ _ a n (by omega) (fun done w' => ReadTo w1 w' (w.heap.size + 1) n a done f) (fun done w' hd hI => read_round (H.out.frame hc fun _ _ => id) h3 h5 (fun e => by have := HL.out _ e; omega) (by omega) (by omega) (by omega) ha hd hI) _ hR).mono ?_
  rintro e w' ⟨rfl, hr, hc'⟩
  have y5 := cell_of_blk (hc'.blk' h5 (by omega)) 0
  simp only [List.getElem?_toArray, List.getElem?_cons_zero] at y5
  have HR := Lib.hid hr
  have HC := Lib.hid (hc.trans (S := fun _ => False) hc' fun i hi e => by omega)
  clear hr hc' hc h3 hg h5 hR
  go_wp2
  go_ret
  refine ⟨w.heap.size + 1, rfl, by omega, ?_, HC.out⟩
  rw [HR.out]
  have e1 : rowCells (put (fun _ => 0) 0 n fun j => f (a + j)) n = rowCells (fun j => f (a + j)) n := rowCells_congr fun i hi => by
    unfold put
    rw [if_pos (by omega)]
    rfl
  rw [e1]
end Go.Proofs.Ytenbkdmaiooldaa
