/- Contracts of package memory's Read, Clone. -/
import Derived.Test.YtenbkdmaiooldaaMemH
import Derived.Test.YtenbkdmaiooldaaLibRange
import Derived.Deep.WholeRow
namespace Go.Proofs.Ytenbkdmaiooldaa
open Go.RowKit Go.Cl
open Go.Maps (Keyed)
open Go.ChangeMaps (setBlock)
set_option linter.unusedVariables false
set_option linter.unusedSimpArgs false
attribute [local go_sem] lt_add_one' blk_alloc_past blk_alloc_at blk_drew blk_setCell_ne blk_setBlock_ne blk_setBlock_eq cell_setBlock_ne frozen_setBlock_ne size_setBlock

set_option maxHeartbeats 1000000 in
set_option maxRecDepth 100000 in
theorem readM_bad {w : World} {b m : Nat} {pg : List (Nat × Nat)} {pages : Nat} {f : Nat → Int} (h : MemIs w b m pg pages f) {a n : Int} (ha0 : 0 ≤ a) (ha : a ≤ 4294967295) (hn : -9223372036854775808 ≤ n ∧ n ≤ 9223372036854775807) (hw : placeE pages a n ≠ 0) :
    Calls Try.prog 31 #[ptrV b, .int .u32 a, .int .i64 n] w fun e w' => e = .returned (.tuple #[.slice none 0 0, .int .i64 (placeE pages a n)]) ∧ w = w' := by
  have c0 := place_ok h a n ha0 ha hn
  generalize placeE pages a n = e0 at *
  have C0 := Lib.hid c0
  clear c0 h
  unfold ptrV at *
  go_enter Try.func31, Try.ntmps31
  go_wp2_with fail
  refine C0.out.mono ?_
  rintro e w' ⟨rfl, rfl⟩
  have n1 : (e0 != 0) = true := by simpa using hw
  go_wp2
  go_ret2
  exact ⟨rfl, rfl⟩

set_option maxHeartbeats 1000000 in
set_option maxRecDepth 100000 in
theorem readM_ok {w : World} {b m : Nat} {pg : List (Nat × Nat)} {pages : Nat} {f : Nat → Int} (h : MemIs w b m pg pages f) {a n : Nat} (ha : a + n ≤ pages * 4096) :
    Calls Try.prog 31 #[ptrV b, .int .u32 a, .int .i64 n] w fun e w' => ∃ g, e = .returned (.tuple #[.slice (some ⟨g, 0, none⟩) n n, .int .i64 0]) ∧ w.heap.size ≤ g ∧ blk w' g = some (.cells (rowCells (fun j => f (a + j)) n).toArray 5 (0, 0)) ∧ Chg (fun _ => False) w w' := by
  have hp := h.size
  have c0 := place_ok h a n (by omega) (by omega) (by omega)
  have e0 : placeE pages a n = 0 := by unfold placeE; rw [if_neg (by omega), if_neg (by omega)]
  rw [e0] at c0
  have hR := read_ok h ha
  have C0 := Lib.hid c0
  have HR := Lib.hid hR
  clear c0 h e0 hR
  unfold ptrV at *
  go_enter Try.func31, Try.ntmps31
  go_wp2_with fail
  refine C0.out.mono ?_
  rintro e w' ⟨rfl, rfl⟩
  go_wp2_with fail
  refine HR.out.mono ?_
  rintro e w' ⟨g, rfl, hg, hr, hc⟩
  have K := Lib.hid (And.intro hg (And.intro hr hc))
  clear hg hr hc
  go_wp2
  go_ret2
  exact ⟨g, rfl, K.out⟩

theorem size116i : (Try.prog.info? 116).map (·.size) = some 4096 := by kernel_rfl

theorem size116c (f : Nat → Int) (k : Nat) : (Try.prog.info? 116).map (·.size) = some (pageCells f k).toArray.size := by rw [size116i]; simp [length_pageCells]
theorem size116z (f : Nat → Int) (k : Nat) : Try.zeroCells116.size = (pageCells f k).toArray.size := by rw [show Try.zeroCells116 = Array.replicate 4096 (.int .u8 0) by kernel_rfl]; simp [length_pageCells]
theorem one116c (f : Nat → Int) (k : Nat) : (pageCells f k).toArray.all (·.oneCell') = true := by
  simp only [List.all_toArray', List.all_eq_true]
  intro x hx
  obtain ⟨j, _, rfl⟩ := List.mem_map.1 hx
  rfl

/-- f on some pages. -/
def onPages (f : Nat → Int) (ks : List Nat) (x : Nat) : Int := if x / 4096 ∈ ks then f x else 0

/-- A clone under way. -/
structure CloneInv (w : World) (b m R b' m' : Nat) (pg : List (Nat × Nat)) (pages : Nat) (f : Nat → Int) (left : List (Nat × Nat)) (wr : World) (pg' : List (Nat × Nat)) : Prop where
  mem : MemIs wr b' m' pg' pages (onPages f (pg'.map (·.1)))
  rg : RangeIs Try.prog 22 wr m R (left.map fun q => (.int .u32 (q.1 : Int), ptrV q.2))
  chg : Chg (fun _ => False) w wr
  foot : ∀ i, Foot b' m' pg' i → w.heap.size ≤ i ∧ i ≠ R
  sub : ∀ q ∈ left, q ∈ pg
  perm : (left.map (·.1) ++ pg'.map (·.1)).Perm (pg.map (·.1))

set_option maxHeartbeats 1000000 in
set_option maxRecDepth 100000 in
theorem clone_ok {w : World} {b m : Nat} {pg : List (Nat × Nat)} {pages : Nat} {f : Nat → Int} (h : MemIs w b m pg pages f) :
    Calls Try.prog 30 #[ptrV b] w fun e w' => ∃ b' m' pg', e = .returned (ptrV b') ∧ MemIs w' b' m' pg' pages f ∧ Chg (fun _ => False) w w' ∧ ∀ i, Foot b' m' pg' i → w.heap.size ≤ i := by
  obtain ⟨b1, m1, c0, c1⟩ := h.facts
  have hsz := h.size
  obtain ⟨_, _, _, _, _, _, _, _, _, _, _, _, _, _, _, _, _, _⟩ := lts b1
  obtain ⟨_, _, _, _, _, _, _, _, _, _, _, _, _, _, _, _, _, _⟩ := lts m1
  have hmm := @run_makeMap Try.prog
  obtain ⟨oi, hrng, hri⟩ := h.mp.range Try.underlying96
  have H := Lib.hid h
  have HR := Lib.hid hri
  clear h hri
  unfold ptrV at *
  go_enter Try.func30, Try.ntmps30
  go_wp2
  obtain ⟨R, hR⟩ : ∃ R, R = w.heap.size + 1 + 1 := ⟨_, rfl⟩
  obtain ⟨W0, hW0⟩ : ∃ W0 : World, W0 = ((w.alloc (.map #[] 0)).alloc (.cells #[.int .i64 pages, .map (some w.heap.size)] 98 (0, 0))).alloc oi := ⟨_, rfl⟩
  have kW : Chg (fun _ => False) w W0 := by rw [hW0]; repeat (first | exact Chg.refl _ _ | apply Chg.drew | (refine Chg.setCell ?_ (by simp) _) | (refine Chg.alloc ?_ _) | (refine Chg.setBlock ?_ (by simp) _))
  have k0 : RangeIs Try.prog 22 W0 m R (pg.map fun q => (.int .u32 (q.1 : Int), ptrV q.2)) := HR.out _ _ (kW.blk m1 (by simp)) (by rw [hW0, hR]; exact blk_alloc_at _ _ _ (by simp))
  have kst : blk W0 (w.heap.size + 1) = some (.cells #[.int .i64 pages, .map (some w.heap.size)] 98 (0, 0)) := by
    rw [hW0, blk_alloc_past _ _ _ (by simp), blk_alloc_at _ _ _ (by simp)]
  have kmp : MapIs Try.prog 22 W0 w.heap.size [] := by
    refine (MapIs.fresh w _ _).of_block ?_
    show blk W0 w.heap.size = blk (w.alloc (.map #[] 0)) w.heap.size
    rw [hW0, blk_alloc_past _ _ _ (by simp; omega), blk_alloc_past _ _ _ (by simp)]
  have kM : MemIs W0 (w.heap.size + 1) w.heap.size [] pages (onPages f []) :=
    ⟨kst, by omega, kmp, by simp, by simp, by simp, by simp, fun a _ => by simp [onPages], fun a => by simp [onPages], hsz⟩
  have I0 : CloneInv w b m R (w.heap.size + 1) w.heap.size pg pages f pg W0 [] := ⟨kM, k0, kW, by
    rintro i (rfl | rfl | h)
    · omega
    · omega
    · simp at h, fun _ h => h, by simp⟩
  rw [← hW0, ← hR]
  have HRR := Lib.hid hR
  have I00 := Lib.hid I0
  clear hR hW0 kW k0 kst kmp kM I0
  generalize hb' : w.heap.size + 1 = b' at *
  generalize hm' : w.heap.size = m' at *
  have HB' := Lib.hid hb'
  have HM' := Lib.hid hm'
  clear hb' hm'
  go_loopg [] pg.length (fun g wr => ∃ left pg', left.length = g ∧ CloneInv w b m R b' m' pg pages f left wr pg')
  case atStart => exact ⟨pg, [], rfl, I00.out⟩
  case round =>
    obtain ⟨left, pg', hgk, hI⟩ := hrel
    have Hgk := Lib.hid hgk
    have HI := Lib.hid hI
    have hrg := hI.rg
    clear hgk hI
    go_wp2_with (at_next; refine wpList_next_of wr (fun q : Nat × Nat => .int .u32 (q.1 : Int)) (fun q => ptrV q.2) rfl _ rfl 22 m R left rfl hrg ?_ ?_)
    · intro hl0
      have hM := HI.out.mem
      have hp := HI.out.perm
      rw [hl0] at hp
      have HM := Lib.hid hM
      have HP := Lib.hid hp
      clear hM hl0 hrg hp
      go_wp2
      go_ret
      refine ⟨b', rfl, m', pg', ?_, HI.out.chg, fun i hi => (HI.out.foot i hi).1⟩
      have e : onPages f (pg'.map (·.1)) = f := by
        funext x
        unfold onPages
        split
        · rfl
        · rename_i hx
          exact (H.out.out x fun hh => hx (by
            have := HP.out.mem_iff (a := x / 4096)
            simpa using this.2 hh)).symm
      rw [← e]
      exact HM.out
    · intro k p w1 hel hrg1 hc1 hz1 hent
      have hperm : left.Perm ((k, p) :: @List.erase _ instBEqOfDecidableEq left (k, p)) := @List.perm_cons_erase _ instBEqOfDecidableEq _ _ _ hel
      generalize @List.erase _ instBEqOfDecidableEq left (k, p) = left' at hrg1 hperm
      have HPM := Lib.hid hperm
      clear hperm
      have hkp := HI.out.sub _ hel
      have hk := H.out.inn _ hkp
      simp only at hk
      have c2 := HI.out.chg.step (S := fun i => i = R) hc1 (fun _ _ h => h.elim) fun _ _ h => h
      have C3 := Lib.hid (HI.out.chg.trans (S := fun _ => False) hc1 fun i hi h => by have := HRR.out; have := HB'.out; have := HM'.out; omega)
      have hM1 := HI.out.mem.frame hc1 fun i hi e => (HI.out.foot i hi).2 e
      have lp := blk_lt (H.out.pgs _ hkp)
      simp only at lp
      have hpg := c2.blk' (H.out.pgs _ hkp) (by have := HRR.out; have := HM'.out; have := HB'.out; simp only; omega)
      simp only at hpg
      obtain ⟨bb1, mm1, d0, d1⟩ := hM1.facts
      obtain ⟨_, _, _, _, _, _, _, _, _, _, _, _, _, _, _, _, _, _⟩ := lts bb1
      obtain ⟨_, _, _, _, _, _, _, _, _, _, _, _, _, _, _, _, _, _⟩ := lts mm1
      have hst := run_storeCells_new (P := Try.prog) w1 116 Try.zeroCells116 (pageCells f k).toArray (size116c f k) (size116z f k) (one116c f k)
      rw [List.toList_toArray] at hst
      have hnk : k ∉ pg'.map (·.1) := fun hh => by
        have hnd := (HI.out.perm.nodup_iff).2 H.out.keys
        exact (List.nodup_append.1 hnd).2.2 k (List.mem_map.2 ⟨_, hel, rfl⟩) k hh rfl
      obtain ⟨o, a1, a2⟩ := hM1.mp.put_miss pageKeyed Try.underlying96 (isKey_page (k := k) (by omega)) (fun q hq e => by
        obtain ⟨x, hx, rfl⟩ := List.mem_map.1 hq
        simp at e
        exact hnk (List.mem_map.2 ⟨x, hx, by omega⟩)) (ptrV w1.heap.size)
      simp only [ptrV] at a1
      have A2 := Lib.hid a2
      have NK := Lib.hid hnk
      clear a2 hnk
      have HM1 := Lib.hid hM1
      have HPG := Lib.hid hpg
      have RG1 := Lib.hid hrg1
      have C2 := Lib.hid c2
      have HE := Lib.hid hel
      have HZ1 := Lib.hid hz1
      clear hM1 hpg hrg1 c2 hel hc1 hrg hz1
      unfold ptrV at *
      go_wp2_with (guard_target =~ wpList _ _ _ (Oper.mk _ (Op.load 116 _) _ _ _ _ :: _) _ _; refine wpList_load_row rfl 116 _ rfl p rfl 116 _ (0, 0) _ HPG.out u116 rfl (size116c f k) ?_)
      have LP := Lib.hid lp
      have MM1 := Lib.hid mm1
      have M1 := Lib.hid m1
      go_roundg left'.length
      case measure =>
        have := Hgk.out
        have := HPM.out.length_eq
        simp only [List.length_cons] at this
        omega
      case rel =>
        obtain ⟨W, hW⟩ : ∃ W, W = setBlock (w1.alloc (.cells (pageCells f k).toArray 116 (0, 0))) m' o := ⟨_, rfl⟩
        rw [← hW]
        have e1 := HRR.out
        have e2 := HB'.out
        have e3 := HM'.out
        have e4 := RG1.out.lt
        have e5 := MM1.out
        have e6 := M1.out
        have kc : Chg (fun i => i = m') w1 W := by rw [hW]; exact ((Chg.refl _ _).alloc _).setBlock (by simp) _
        have c3 : Chg (fun _ => False) w W := C3.out.trans kc (fun i hi h => by omega)
        refine ⟨left', (k, w1.heap.size) :: pg', rfl, ⟨?_, RG1.out.frame kc (by omega) (by omega), c3, ?_, ?_, ?_⟩⟩
        · have ek : ∀ i, i < 4096 → (k * 4096 + i) / 4096 = k := fun i hi => by omega
          have ec : pageCells f k = pageCells (onPages f (((k, w1.heap.size) :: pg').map (·.1))) k := pageCells_congr fun i hi => by
            unfold onPages
            rw [ek i hi, if_pos (by simp)]
          refine HM1.out.page_new (k := k) (q := w1.heap.size) (by omega) NK.out kc (Nat.le_refl _) (A2.out _ ?_) ?_ ?_ ?_
          · rw [hW]
            exact blk_setBlock_eq _ _ _ (by simp; omega)
          · rw [hW, blk_setBlock_ne _ _ _ _ (by omega), blk_alloc_at _ _ _ rfl, ec]
          · intro a ha
            unfold onPages
            simp only [List.map_cons, List.mem_cons]
            by_cases hh : a / 4096 ∈ pg'.map (·.1)
            · rw [if_pos (.inr hh), if_pos hh]
            · rw [if_neg (fun h => h.elim ha hh), if_neg hh]
          · intro a
            unfold onPages
            split
            · exact H.out.byte a
            · omega
        · rintro i (hi | hi | hi)
          · exact HI.out.foot i (.inl hi)
          · exact HI.out.foot i (.inr (.inl hi))
          · simp only [List.map_cons, List.mem_cons] at hi
            rcases hi with hi | hi
            · have := C3.out.size
              omega
            · exact HI.out.foot i (.inr (.inr hi))
        · intro q hq
          exact HI.out.sub q (HPM.out.mem_iff.2 (List.mem_cons_of_mem _ hq))
        · have p1 := (HPM.out.map (·.1)).append_right (pg'.map (·.1))
          simp only [List.map_cons] at p1 ⊢
          exact (List.perm_middle.trans p1.symm).trans HI.out.perm
end Go.Proofs.Ytenbkdmaiooldaa
