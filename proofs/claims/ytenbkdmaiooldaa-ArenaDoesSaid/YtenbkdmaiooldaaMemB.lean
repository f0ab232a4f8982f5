/- Contracts of package memory's split, write and read: bytes go to, and come from, their pages. No condition. -/
import Derived.Test.YtenbkdmaiooldaaMemA
import Derived.Deep.LoopGhost
import Derived.Deep.DeepCutAuto
import Derived.Deep.CutBlock
import Derived.Deep.CutRange
namespace Go.Proofs.Ytenbkdmaiooldaa
open Go.RowKit Go.Cl
open Go.Maps (Keyed)
open Go.ChangeMaps (setBlock)
set_option linter.unusedVariables false
set_option linter.unusedSimpArgs false
attribute [local go_sem] lt_add_one' blk_alloc_past blk_alloc_at blk_drew blk_setCell_ne blk_setBlock_ne blk_setBlock_eq cell_setBlock_ne frozen_setBlock_ne size_setBlock

/-- Bytes at a place. -/
def Src (w : World) (sb so n : Nat) (bs : Nat → Int) : Prop := ∀ j, j < n → w.cell? ⟨sb, so + j, none⟩ = some (.int .u8 (bs j)) ∧ 0 ≤ bs j ∧ bs j ≤ 255

theorem Src.frame {S : Nat → Prop} {w w' : World} {sb so n : Nat} {bs : Nat → Int} (h : Src w sb so n bs) (hc : Chg S w w') (hs : ¬ S sb) : Src w' sb so n bs := fun j hj => by
  obtain ⟨h1, h2⟩ := h j hj
  exact ⟨(World.cell?_of_block (w := w) (a := ⟨sb, so + j, none⟩) (hc.block sb (World.block_lt_of_cell? _ _ h1) hs)).trans h1, h2⟩

/-- A function turned at a place. -/
def put (f : Nat → Int) (a n : Nat) (bs : Nat → Int) (x : Nat) : Int := if a ≤ x ∧ x < a + n then bs (x - a) else f x

theorem mem_look {w : World} {b m : Nat} {pg : List (Nat × Nat)} {pages : Nat} {f : Nat → Int} (h : MemIs w b m pg pages f) {k p : Nat} (hk : k < 4096) (hkp : (k, p) ∈ pg) :
    ∀ w' : World, blk w' m = blk w m → (Instr.lookup 96 (.map (some m)) (.int .u32 k) false).run Try.prog w' = .ok (.pointer (some ⟨p, 0, none⟩)) w' :=
  h.mp.look_hit pageKeyed Try.underlying96 (isKey_page (by omega)) (List.mem_map.2 ⟨(k, p), hkp, rfl⟩) false

theorem zero114 (w : World) : (zeroValue 114).run Try.prog w = .ok (.pointer none) w := by kernel_rfl

theorem mem_miss {w : World} {b m : Nat} {pg : List (Nat × Nat)} {pages : Nat} {f : Nat → Int} (h : MemIs w b m pg pages f) {k : Nat} (hk : k < 4096) (hno : k ∉ pg.map (·.1)) :
    ∀ w' : World, blk w' m = blk w m → (Instr.lookup 96 (.map (some m)) (.int .u32 k) false).run Try.prog w' = .ok (.pointer none) w' :=
  h.mp.look_miss pageKeyed Try.underlying96 zero114 (isKey_page (by omega)) (fun q hq e => by
    obtain ⟨x, hx, rfl⟩ := List.mem_map.1 hq
    simp at e
    exact hno (List.mem_map.2 ⟨x, hx, by omega⟩)) false

theorem blk_setRow_ne (w : World) (g : Nat) (cs : Array Value) (n : Nat) (hn : n ≠ g) : blk (w.setRow g cs) n = blk w n := by
  simp only [blk, World.setRow, Array.getElem?_modify]
  rw [if_neg (Ne.symm hn)]
theorem blk_setRow_eq (w : World) (g : Nat) (cs c : Array Value) (t : TypeId) (fr : Nat × Nat) (h : blk w g = some (.cells c t fr)) : blk (w.setRow g cs) g = some (.cells cs t fr) := by
  simp only [blk] at h
  simp only [blk, World.setRow, Array.getElem?_modify, ↓reduceIte, h, Option.map_some]
theorem size_setRow (w : World) (g : Nat) (cs : Array Value) : (w.setRow g cs).heap.size = w.heap.size := by simp [World.setRow]
theorem chg_setRow {S : Nat → Prop} {a w : World} (h : Chg S a w) {g : Nat} (hp : g < a.heap.size → S g) (cs : Array Value) : Chg S a (w.setRow g cs) :=
  h.trans (S' := fun i => i = g) ⟨rfl, rfl, rfl, by rw [size_setRow]; exact Nat.le_refl _, fun k _ hn => blk_setRow_ne _ _ _ _ hn⟩ (fun i hi e => e ▸ hp (e ▸ hi))

theorem info5 : (Try.prog.info? 5).map (·.size) = some 1 := by kernel_rfl

theorem splice_page {f : Nat → Int} {k fr tt : Nat} {g : Nat → Int} (hft : fr ≤ tt) (ht : tt ≤ 4096) :
    (pageCells f k).take fr ++ ((List.range (tt - fr)).map fun j => Value.int .u8 (g j)) ++ (pageCells f k).drop (fr + ((List.range (tt - fr)).map fun j => Value.int .u8 (g j)).length) = pageCells (put f (k * 4096 + fr) (tt - fr) g) k := by
  apply List.ext_getElem?
  intro i
  by_cases hi : i < 4096
  · rw [getElem_pageCells _ _ _ hi]
    unfold put
    by_cases h1 : i < fr
    · rw [List.append_assoc, List.getElem?_append_left (by simp [length_pageCells]; omega), List.getElem?_take_of_lt h1, getElem_pageCells _ _ _ hi, if_neg (by omega)]
    · by_cases h2 : i < tt
      · rw [List.append_assoc, List.getElem?_append_right (by simp [length_pageCells]; omega), List.getElem?_append_left (by simp [length_pageCells]; omega), if_pos (by omega)]
        have e1 : i - (List.take fr (pageCells f k)).length = i - fr := by rw [List.length_take, length_pageCells]; omega
        rw [e1]
        simp only [List.getElem?_map, List.getElem?_range (show i - fr < tt - fr by omega), Option.map_some]
        rw [show k * 4096 + i - (k * 4096 + fr) = i - fr by omega]
      · rw [List.getElem?_append_right (by simp [length_pageCells]; omega), List.getElem?_drop, if_neg (by omega), ← getElem_pageCells _ _ _ hi]
        congr 1
        simp only [List.length_append, List.length_take, length_pageCells, List.length_map, List.length_range]
        omega
  · rw [List.getElem?_eq_none (by simp only [List.length_append, List.length_take, List.length_drop, length_pageCells, List.length_map, List.length_range]; omega), List.getElem?_eq_none (by rw [length_pageCells]; omega)]

/-- The copy of a part into a page. -/
theorem run_part (w : World) {p k : Nat} {f : Nat → Int} {sb so n done fr tt : Nat} {bs : Nat → Int} (hp : blk w p = some (.cells (pageCells f k).toArray 116 (0, 0))) (hs : Src w sb so n bs) (hd : done < n) (hft : fr < tt) (ht : tt ≤ 4096) (hn : tt - fr ≤ n - done) (ty : TypeId) (c : Nat) :
    (Builtin.copy_ #[58, 58] ty #[.slice (some ⟨p, fr, none⟩) (tt - fr) (4096 - fr), .slice (some ⟨sb, so + done, none⟩) (n - done) c]).run Try.prog w =
      .ok (.int .i64 ((tt - fr : Nat) : Int)) (w.setRow p (pageCells (put f (k * 4096 + fr) (tt - fr) (fun j => bs (done + j))) k).toArray) := by
  have hcs : ((List.range (tt - fr)).map fun j => Value.int .u8 (bs (done + j))).length = Nat.min (n - done) (tt - fr) := by simp; exact (Nat.min_eq_right hn).symm
  have := run_copy_row (P := Try.prog) w 58 58 ty 5 p fr (tt - fr) (4096 - fr) ⟨sb, so + done, none⟩ (n - done) c (pageCells f k).toArray 116 ((List.range (tt - fr)).map fun j => Value.int .u8 (bs (done + j))) Try.underlying58 info5 hp hcs
    (fun j v hv => by
      have hj : j < tt - fr := by have := (List.getElem?_eq_some_iff.1 hv).1; simpa using this
      simp [hj] at hv
      subst hv
      have h1 := (hs (done + j) (by omega)).1
      have e : (⟨sb, so + done, none⟩ : Addr).add j = ⟨sb, so + (done + j), none⟩ := by
        simp only [Addr.add]
        split
        · rename_i h0; rw [h0]; rfl
        · rw [Nat.add_assoc]
      rw [e]
      exact h1)
    (by simp [length_pageCells]; omega)
    (fun v hv => by
      obtain ⟨j, _, rfl⟩ := List.mem_map.1 hv
      rfl)
  rw [this, List.toList_toArray, splice_page (by omega) ht]
  simp [goInt]


theorem part_fact {w : World} {p k : Nat} {f : Nat → Int} {sb so n done fr tt : Nat} {bs : Nat → Int} (hp : blk w p = some (.cells (pageCells f k).toArray 116 (0, 0))) (hs : Src w sb so n bs) (hd : done < n) (hft : fr < tt) (ht : tt ≤ 4096) (hn : tt - fr ≤ n - done) (c : Nat) :
    ∀ w' : World, blk w' p = blk w p → blk w' sb = blk w sb → (Builtin.copy_ #[58, 58] 3 #[.slice (some ⟨p, fr, none⟩) (tt - fr) (4096 - fr), .slice (some ⟨sb, so + done, none⟩) (n - done) c]).run Try.prog w' =
      .ok (.int .i64 ((tt - fr : Nat) : Int)) (w'.setRow p (pageCells (put f (k * 4096 + fr) (tt - fr) (fun j => bs (done + j))) k).toArray) := fun w' h1 h2 =>
  run_part w' (h1.trans hp) (fun j hj => ⟨(World.cell?_of_block (w := w) (a := ⟨sb, so + j, none⟩) h2).trans (hs j hj).1, (hs j hj).2⟩) hd hft ht hn 3 c

theorem u116 : Try.prog.underlying 116 = some (.array (Try.prog.arrayLen 116) (Try.prog.elem 116)) := by kernel_rfl
theorem len116 : Try.prog.arrayLen 116 = 4096 := by kernel_rfl
theorem size116 (w : World) : (sizeOf (Try.prog.elem 116)).run Try.prog w = .ok 1 w := by kernel_rfl

/-- A part of a page. -/
theorem slice_page {p fr tt : Nat} (hft : fr < tt) (ht : tt ≤ 4096) : ∀ w' : World, (Instr.sliceAt 116 (.pointer (some ⟨p, 0, none⟩)) (some (.int .i64 fr)) (some (.int .i64 tt)) none).run Try.prog w' = .ok (.slice (some ⟨p, fr, none⟩) (tt - fr) (4096 - fr)) w' := fun w' => by
  rw [run_sliceAt_array_lh w' 116 ⟨p, 0, none⟩ u116 .i64 .i64 fr tt (by omega) (by omega) (by rw [len116]; omega), size116, len116]
  simp only [slicedAt, Int.toNat_natCast]
  show Result.ok _ _ = _
  rw [if_neg (by omega)]
  simp only [Nat.mul_one, Addr.add]
  split
  · rename_i h0; rw [h0]
  · simp

/-- A page that is there, written. -/
theorem MemIs.page_put {w w' : World} {b m : Nat} {pg : List (Nat × Nat)} {pages : Nat} {f f' : Nat → Int} (h : MemIs w b m pg pages f) {k p : Nat} (hkp : (k, p) ∈ pg) (hc : Chg (fun i => i = p) w w') (hp : blk w' p = some (.cells (pageCells f' k).toArray 116 (0, 0)))
    (hf : ∀ a, a / 4096 ≠ k → f' a = f a) (hb : ∀ a, 0 ≤ f' a ∧ f' a ≤ 255) : MemIs w' b m pg pages f' := by
  have hap := h.apart _ hkp
  refine ⟨hc.blk' h.st (Ne.symm hap.1), h.ne, h.mp.frame hc (Ne.symm hap.2), fun q hq => ?_, h.keys, h.blks, h.inn, fun a ha => ?_, hb, h.size⟩
  · by_cases hqp : q.2 = p
    · have : q = (k, p) := by
        obtain ⟨i, hi, rfl⟩ := List.getElem_of_mem hq
        obtain ⟨j, hj, hje⟩ := List.getElem_of_mem hkp
        have hij : i = j := by
          refine (List.getElem_inj (xs := pg.map (·.2)) (h₀ := by simpa using hi) (h₁ := by simpa using hj) h.blks).1 ?_
          simp only [List.getElem_map, hje, hqp]
        subst hij
        exact hje
      subst this
      exact hp
    · have hk : q.1 ≠ k := fun e => hqp (by
        obtain ⟨i, hi, rfl⟩ := List.getElem_of_mem hq
        obtain ⟨j, hj, hje⟩ := List.getElem_of_mem hkp
        have hij : i = j := by
          refine (List.getElem_inj (xs := pg.map (·.1)) (h₀ := by simpa using hi) (h₁ := by simpa using hj) h.keys).1 ?_
          simp only [List.getElem_map, hje, e]
        subst hij
        rw [hje])
      rw [hc.blk' (h.pgs q hq) hqp]
      rw [pageCells_congr (f := f) (f' := f') fun i hi => (hf _ (by omega)).symm]
  · have hk : a / 4096 ≠ k := fun e => ha (List.mem_map.2 ⟨(k, p), hkp, e.symm⟩)
    rw [hf a hk]
    exact h.out a ha

theorem put_far {f : Nat → Int} {k fr tt : Nat} {g : Nat → Int} (hft : fr ≤ tt) (ht : tt ≤ 4096) {a : Nat} (ha : a / 4096 ≠ k) : put f (k * 4096 + fr) (tt - fr) g a = f a := by
  unfold put
  rw [if_neg (by omega)]

theorem put_byte {f : Nat → Int} {a n : Nat} {g : Nat → Int} (hf : ∀ a, 0 ≤ f a ∧ f a ≤ 255) (hg : ∀ j, j < n → 0 ≤ g j ∧ g j ≤ 255) : ∀ x, 0 ≤ put f a n g x ∧ put f a n g x ≤ 255 := by
  intro x
  unfold put
  split
  · exact hg _ (by omega)
  · exact hf x

set_option maxHeartbeats 1000000 in
set_option maxRecDepth 100000 in
theorem wr_hit {w : World} {b m : Nat} {pg : List (Nat × Nat)} {pages : Nat} {f : Nat → Int} (h : MemIs w b m pg pages f) {x3 x5 sb so n cap : Nat} {bs : Nat → Int} (h3 : blk w x3 = some (.cells #[ptrV b] 24 (0, 0))) (h5 : blk w x5 = some (.cells #[.slice (some ⟨sb, so, none⟩) n cap] 58 (0, 0)))
    (hs : Src w sb so n bs) (hsb : ¬ Foot b m pg sb) (hnc : n ≤ cap) (hcm : cap ≤ 9223372036854775807) {k p fr tt done : Nat} (hkp : (k, p) ∈ pg) (hft : fr < tt) (ht : tt ≤ 4096) (hd : done < n) (hn : tt - fr ≤ n - done) :
    Calls Try.prog 78 #[.int .u32 k, .int .i64 fr, .int .i64 tt, .int .i64 done, .pointer (some ⟨x3, 0, none⟩), .pointer (some ⟨x5, 0, none⟩)] w fun e w' => e = .returned (.tuple #[]) ∧ MemIs w' b m pg pages (put f (k * 4096 + fr) (tt - fr) (fun j => bs (done + j))) ∧ Chg (fun i => i = p) w w' := by
  have hk : k < 4096 := by have := h.inn _ hkp; have := h.size; simp at *; omega
  have hps := h.pgs _ hkp
  have hlk := mem_look h hk hkp
  have hsl := slice_page (p := p) hft ht
  have hcp := part_fact hps hs hd hft ht hn (cap - done) w.drew (blk_drew _ _) (blk_drew _ _)
  obtain ⟨b1, m1, c0, c1⟩ := h.facts
  have y3 := cell_of_blk h3 0
  have y5 := cell_of_blk h5 0
  have e1 : ¬ (cap = done) := by omega
  have e2 : fr ≤ tt := by omega
  have e3 : done ≤ n := by omega
  have e4 : done ≤ cap := by omega
  have e5 : ¬ (4096 = fr) := by omega
  simp only [List.getElem?_toArray, List.getElem?_cons_zero, ptrV] at y3 y5
  have H := Lib.hid h
  have HPS := Lib.hid hps
  have HS := Lib.hid hs
  clear h h3 h5 hps hs
  go_enter Try.func78, Try.ntmps78
  go_wp2
  go_region
  go_end0
  refine ⟨rfl, H.out.page_put hkp ?_ (blk_setRow_eq _ _ _ _ _ _ ((blk_drew _ _).trans HPS.out)) ?_ ?_, ?_⟩
  · exact chg_setRow (Chg.refl _ _).drew (by simp) _
  · exact fun a ha => put_far (by omega) ht ha
  · exact put_byte H.out.byte fun j hj => (HS.out _ (by omega)).2
  · exact chg_setRow (Chg.refl _ _).drew (by simp) _

theorem built116 : Try.prog.built 116 [] = some (Array.replicate 4096 (.int .u8 0)) := by kernel_rfl

theorem zero_page {f : Nat → Int} {k : Nat} (h : ∀ i, i < 4096 → f (k * 4096 + i) = 0) : Array.replicate 4096 (.int .u8 0) = (pageCells f k).toArray := by
  have : pageCells f k = List.replicate 4096 (.int .u8 0) := by
    apply List.ext_getElem?
    intro i
    by_cases hi : i < 4096
    · rw [getElem_pageCells _ _ _ hi, h i hi, List.getElem?_replicate, if_pos hi]
    · rw [List.getElem?_eq_none (by rw [length_pageCells]; omega), List.getElem?_eq_none (by rw [List.length_replicate]; omega)]
  rw [this, List.toArray_replicate]

/-- A page that was not there, made and written. -/
theorem MemIs.page_new {w w' : World} {b m : Nat} {pg : List (Nat × Nat)} {pages : Nat} {f f' : Nat → Int} (h : MemIs w b m pg pages f) {k q : Nat} (hk : k < pages) (hno : k ∉ pg.map (·.1)) (hc : Chg (fun i => i = m) w w') (hq : w.heap.size ≤ q)
    (hm : MapIs Try.prog 22 w' m ((.int .u32 (k : Int), ptrV q) :: pg.map fun q => (.int .u32 (q.1 : Int), ptrV q.2))) (hp : blk w' q = some (.cells (pageCells f' k).toArray 116 (0, 0)))
    (hf : ∀ a, a / 4096 ≠ k → f' a = f a) (hb : ∀ a, 0 ≤ f' a ∧ f' a ≤ 255) : MemIs w' b m ((k, q) :: pg) pages f' := by
  have hno' : ∀ x ∈ pg, x.1 ≠ k := fun x hx e => hno (List.mem_map.2 ⟨x, hx, e⟩)
  refine ⟨hc.blk' h.st h.ne, h.ne, hm, fun x hx => ?_, ?_, ?_, fun x hx => ?_, fun a ha => ?_, hb, h.size⟩
  · rcases List.mem_cons.1 hx with rfl | hx
    · exact hp
    · rw [hc.blk' (h.pgs x hx) (h.apart x hx).2]
      rw [pageCells_congr (f := f) (f' := f') fun i hi => (hf _ (by have := hno' x hx; omega)).symm]
  · simp only [List.map_cons, List.nodup_cons]
    exact ⟨hno, h.keys⟩
  · simp only [List.map_cons, List.nodup_cons]
    refine ⟨fun hh => ?_, h.blks⟩
    obtain ⟨x, hx, e⟩ := List.mem_map.1 hh
    have := blk_lt (h.pgs x hx)
    omega
  · rcases List.mem_cons.1 hx with rfl | hx
    · exact hk
    · exact h.inn x hx
  · simp only [List.map_cons, List.mem_cons, not_or] at ha
    rw [hf a ha.1]
    exact h.out a ha.2

set_option maxHeartbeats 1000000 in
set_option maxRecDepth 100000 in
theorem wr_miss {w : World} {b m : Nat} {pg : List (Nat × Nat)} {pages : Nat} {f : Nat → Int} (h : MemIs w b m pg pages f) {x3 x5 sb so n cap : Nat} {bs : Nat → Int} (h3 : blk w x3 = some (.cells #[ptrV b] 24 (0, 0))) (h5 : blk w x5 = some (.cells #[.slice (some ⟨sb, so, none⟩) n cap] 58 (0, 0)))
    (hs : Src w sb so n bs) (hsb : ¬ Foot b m pg sb) (hnc : n ≤ cap) (hcm : cap ≤ 9223372036854775807) {k fr tt done : Nat} (hno : k ∉ pg.map (·.1)) (hkp : k < pages) (hft : fr < tt) (ht : tt ≤ 4096) (hd : done < n) (hn : tt - fr ≤ n - done) :
    Calls Try.prog 78 #[.int .u32 k, .int .i64 fr, .int .i64 tt, .int .i64 done, .pointer (some ⟨x3, 0, none⟩), .pointer (some ⟨x5, 0, none⟩)] w fun e w' => e = .returned (.tuple #[]) ∧ MemIs w' b m ((k, w.heap.size) :: pg) pages (put f (k * 4096 + fr) (tt - fr) (fun j => bs (done + j))) ∧ Chg (fun i => i = m) w w' := by
  have hk : k < 4096 := by have := h.size; omega
  have hlk := mem_miss h hk hno
  have hsl := slice_page (p := w.heap.size) hft ht
  obtain ⟨o, a1, a2⟩ := h.mp.put_miss pageKeyed Try.underlying96 (isKey_page (k := k) (by omega)) (fun q hq e => by
    obtain ⟨x, hx, rfl⟩ := List.mem_map.1 hq
    simp at e
    exact hno (List.mem_map.2 ⟨x, hx, by omega⟩)) (ptrV w.heap.size)
  simp only [ptrV] at a1
  obtain ⟨b1, m1, c0, c1⟩ := h.facts
  have hz := h.out
  have ez : Try.zeroCells116 = (pageCells f k).toArray := (show Try.zeroCells116 = Array.replicate 4096 (.int .u8 0) by kernel_rfl).trans (zero_page fun i hi => hz _ (by rw [show (k * 4096 + i) / 4096 = k by omega]; exact hno))
  have hne := h.ne
  have hm3 : x3 ≠ m := by
    rintro rfl
    obtain ⟨es, clock, hb, _⟩ := h.mp
    have h2 : blk w x3 = some (.map es clock) := hb
    rw [h2] at h3
    simp at h3
  have hm5 : x5 ≠ m := by
    rintro rfl
    obtain ⟨es, clock, hb, _⟩ := h.mp
    have h2 : blk w x5 = some (.map es clock) := hb
    rw [h2] at h5
    simp at h5
  have l3 := blk_lt h3
  have l5 := blk_lt h5
  have lsb : sb < w.heap.size := World.block_lt_of_cell? _ _ (hs 0 (by omega)).1
  have hsm : sb ≠ m := fun e => hsb (.inr (.inl e))
  have y3 := cell_of_blk h3 0
  have y5 := cell_of_blk h5 0
  have e1 : ¬ (cap = done) := by omega
  have e2 : fr ≤ tt := by omega
  have e3 : done ≤ n := by omega
  have e4 : done ≤ cap := by omega
  have e5 : ¬ (4096 = fr) := by omega
  have hW : blk (setBlock (w.alloc (.cells (pageCells f k).toArray 116 (0, 0))) m o) w.heap.size = some (.cells (pageCells f k).toArray 116 (0, 0)) := by
    rw [blk_setBlock_ne _ _ _ _ (by omega)]
    exact blk_alloc_at _ _ _ rfl
  have hcW : Chg (fun i => i = m) w (setBlock (w.alloc (.cells (pageCells f k).toArray 116 (0, 0))) m o) := ((Chg.refl _ _).alloc _).setBlock (by simp) _
  have hcp := part_fact hW (hs.frame hcW (by exact hsm)) hd hft ht hn (cap - done) (setBlock (w.alloc (.cells (pageCells f k).toArray 116 (0, 0))) m o).drew rfl rfl
  rw [← ez] at hcp
  simp only [List.getElem?_toArray, List.getElem?_cons_zero, ptrV] at y3 y5
  have EZ := Lib.hid ez
  have H := Lib.hid h
  have HS := Lib.hid hs
  have HW := Lib.hid hW
  have HC := Lib.hid hcW
  have HZ := Lib.hid hz
  have A2 := Lib.hid a2
  clear h h3 h5 hs hW hcW hz a2 ez
  go_enter Try.func78, Try.ntmps78
  go_wp2
  go_region
  go_end0
  rw [EZ.out]
  refine ⟨rfl, H.out.page_new hkp hno ?_ (Nat.le_refl _) (A2.out _ ?_) (blk_setRow_eq _ _ _ _ _ _ ((blk_drew _ _).trans HW.out)) ?_ ?_, ?_⟩
  · exact chg_setRow HC.out.drew (by simp) _
  · rw [blk_setRow_ne _ _ _ _ (by omega), blk_drew]
    exact blk_setBlock_eq _ _ _ (by simp; omega)
  · exact fun a ha => put_far (by omega) ht ha
  · exact put_byte H.out.byte fun j hj => (HS.out _ (by omega)).2
  · exact chg_setRow HC.out.drew (by simp) _
end Go.Proofs.Ytenbkdmaiooldaa
