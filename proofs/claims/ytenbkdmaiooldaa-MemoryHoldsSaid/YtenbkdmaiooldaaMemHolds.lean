/- MemoryHolds: each byte is what was written there last, read as words or as bytes: for every input. No condition. -/
import Derived.Test.YtenbkdmaiooldaaMemM
import Derived.Test.YtenbkdmaiooldaaLibApp
import Derived.Deep.RegionHeld3
import Derived.Deep.DrawnRows
namespace Go.Proofs.Ytenbkdmaiooldaa
open Go.RowKit Go.Cl
open Go.Maps (Keyed)
open Go.ChangeMaps (setBlock)
set_option linter.unusedVariables false
set_option linter.unusedSimpArgs false
attribute [local go_sem] lt_add_one' blk_alloc_past blk_alloc_at blk_drew blk_setCell_ne blk_setBlock_ne blk_setBlock_eq cell_setBlock_ne frozen_setBlock_ne size_setBlock

/-- A memory of three pages, and what is known of its first two. -/
structure KS (w wq : World) (b m G : Nat) (pg : List (Nat × Nat)) (f h : Nat → Int) : Prop where
  mem : MemIs wq b m pg 3 f
  row : blk wq G = some (.cells (rowCells h 8192).toArray 5 (0, 0))
  far : ∀ x, 8192 ≤ x → f x = 0
  off : ¬ Foot b m pg G
  new : ∀ i, Foot b m pg i → w.heap.size ≤ i
  newG : w.heap.size ≤ G
  chg : Chg (fun _ => False) w wq

def KSS (w wq : World) (b m G : Nat) : Prop := ∃ pg f, KS w wq b m G pg f f

theorem KS.frame0 {w wq wq' : World} {b m G : Nat} {pg : List (Nat × Nat)} {f h : Nat → Int} (k : KS w wq b m G pg f h) (hc : Chg (fun _ => False) wq wq') : KS w wq' b m G pg f h :=
  ⟨k.mem.frame hc fun _ _ => id, hc.blk' k.row id, k.far, k.off, k.new, k.newG, k.chg.trans hc fun _ _ => id⟩

theorem KS.wrote {w wq wq' : World} {b m G : Nat} {pg : List (Nat × Nat)} {f h : Nat → Int} (k : KS w wq b m G pg f h) {a n : Nat} {bs : Nat → Int} (ha : a + n ≤ 8192) (hw : Wrote wq wq' b m pg 3 (put f a n bs)) : ∃ pg', KS w wq' b m G pg' (put f a n bs) h := by
  obtain ⟨pg', h1, h2, h3⟩ := hw
  refine ⟨pg', h1, h2.blk' k.row k.off, fun x hx => ?_, fun hh => ?_, fun i hi => ?_, k.newG, k.chg.trans h2 fun i hi h => by have := k.new i h; omega⟩
  · unfold put
    rw [if_neg (by omega)]
    exact k.far x hx
  · rcases h3 _ hh with h | h
    · exact k.off h
    · have := blk_lt k.row; omega
  · rcases h3 i hi with h | h
    · exact k.new i h
    · have := k.chg.size; omega

/-- The law's own row is written. -/
theorem KS.know {w wq wq' : World} {b m G : Nat} {pg : List (Nat × Nat)} {f h h' : Nat → Int} (k : KS w wq b m G pg f h) (hc : Chg (fun i => i = G) wq wq') (hb : blk wq' G = some (.cells (rowCells h' 8192).toArray 5 (0, 0))) : KS w wq' b m G pg f h' :=
  ⟨k.mem.frame hc fun i hi e => k.off (e ▸ hi), hb, k.far, k.off, k.new, k.newG, k.chg.trans hc fun i hi e => by subst e; have := k.newG; omega⟩

theorem MemIs.not_foot {w : World} {b m : Nat} {pg : List (Nat × Nat)} {pages : Nat} {f : Nat → Int} (h : MemIs w b m pg pages f) {P : Nat} {cs : Array Value} {t : TypeId} {fr : Nat × Nat} (hb : blk w P = some (.cells cs t fr)) (h1 : t ≠ 98) (h2 : t ≠ 116) : ¬ Foot b m pg P := by
  rintro (rfl | rfl | hP)
  · rw [h.st] at hb
    simp only [Option.some.injEq, Obj.cells.injEq] at hb
    exact h1 hb.2.1.symm
  · obtain ⟨es, clock, hm, _⟩ := h.mp
    simp only [blk] at hb
    rw [hm] at hb
    simp at hb
  · obtain ⟨q, hq, rfl⟩ := List.mem_map.1 hP
    rw [h.pgs q hq] at hb
    simp only [Option.some.injEq, Obj.cells.injEq] at hb
    exact h2 hb.2.1.symm

theorem rowCells_set (h : Nat → Int) (n a : Nat) (v : Int) : (rowCells h n).set a (.int .u8 v) = rowCells (fun x => if x = a then v else h x) n := by
  apply List.ext_getElem?
  intro i
  by_cases hi : i < n
  · rw [List.getElem?_set, getElem_rowCells _ _ _ hi]
    by_cases hia : a = i
    · subst hia
      rw [if_pos rfl, if_pos (by rw [length_rowCells]; exact hi), getElem_rowCells _ _ _ hi, if_pos rfl]
    · rw [if_neg hia, getElem_rowCells _ _ _ hi, if_neg (Ne.symm hia)]
  · rw [List.getElem?_eq_none (by simp [length_rowCells]; omega), List.getElem?_eq_none (by rw [length_rowCells]; omega)]

theorem put_succ (f : Nat → Int) (a k : Nat) (bs : Nat → Int) : put f a (k + 1) bs = fun x => if x = a + k then bs k else put f a k bs x := by
  funext x
  unfold put
  by_cases h : x = a + k
  · subst h
    rw [if_pos (by omega), if_pos rfl]
    congr 1
    omega
  · rw [if_neg h]
    by_cases h2 : a ≤ x ∧ x < a + k
    · rw [if_pos h2, if_pos (by omega)]
    · rw [if_neg h2, if_neg (by omega)]

theorem byte_pow (V : Int) (k : Nat) : V / 2 ^ (8 * k) % 256 = byteOf V k := by
  unfold byteOf
  have : (2 : Int) ^ (8 * k) = 256 ^ k := by
    induction k with
    | zero => rfl
    | succ k ih => rw [show 8 * (k + 1) = 8 * k + 8 by omega, Int.pow_add, ih, Int.pow_succ]; rfl
  rw [this]

theorem KS.byte {w wq : World} {b m G : Nat} {pg : List (Nat × Nat)} {f f0 : Nat → Int} {B k : Nat} {bs : Nat → Int} (h : KS w wq b m G pg f (put f0 B k bs)) {v : Int} (hv : v = bs k) : KS w (wq.setCell ⟨G, B + k, none⟩ (.int .u8 v)) b m G pg f (put f0 B (k + 1) bs) := by
  refine h.know (Chg.setCell (S := fun i => i = G) (Chg.refl _ _) (p := ⟨G, B + k, none⟩) (fun _ => rfl) _) ?_
  rw [blk_setCell _ _ _ _ _ _ _ h.row, put_succ, ← rowCells_set, hv]
  simp

theorem cell_keepF {S : Nat → Prop} {w w' : World} (hc : Chg S w w') {b i : Nat} {v : Value} (h : w.cell? ⟨b, i, none⟩ = some v) (hs : ¬ S b) : w'.cell? ⟨b, i, none⟩ = some v :=
  (World.cell?_of_block (hc.block b (World.block_lt_of_cell? _ _ h) hs)).trans h

theorem KSS.frame0 {w wq wq' : World} {b m G : Nat} (k : KSS w wq b m G) (hc : Chg (fun _ => False) wq wq') : KSS w wq' b m G := by
  obtain ⟨pg, f, h⟩ := k
  exact ⟨pg, f, h.frame0 hc⟩

set_option maxHeartbeats 20000000 in
set_option maxRecDepth 100000 in
theorem holds_walk (w : World) {v0 : Value} (h0 : ∃ ps, PutsAre w v0 ps) : Calls Try.prog 8 #[v0] w fun e w' => e = .returned (.bool true) ∧ Below w.heap.size w w' := by
  obtain ⟨ps, oa, cap, rfl, hl1, hl2, hps⟩ := h0
  have HP := Lib.hid hps
  have WK := Lib.hid works_ok
  have NW := Lib.hid (fun wy => new_ok 3 (by omega) (by omega) wy)
  have MK := Lib.hid (make_bytes 8192 (by omega))
  unfold maxLen at hl2
  clear hps
  go_enter Try.func8, Try.ntmps8
  go_wp2_with fail
  refine (WK.out w).mono ?_
  rintro e wa ⟨rfl, hca⟩
  have CA := Lib.hid hca
  clear hca
  go_wp2_with fail
  refine (NW.out _).mono ?_
  rintro e wb ⟨b, m, rfl, hm, hb, hm2, hcb⟩
  have CB := Lib.hid (CA.out.trans hcb fun _ _ => id)
  have mk : (Instr.makeSlice 58 (.int .i64 8192) (.int .i64 8192)).run Try.prog wb = .ok (.slice (some ⟨wb.heap.size, 0, none⟩) 8192 8192) (wb.alloc (.cells (rowCells (fun _ => 0) 8192).toArray 5 (0, 0))) := MK.out wb
  have HM := Lib.hid hm
  have HB := Lib.hid (And.intro hb hm2)
  have HSZ := Lib.hid CA.out.size
  clear hm hb hm2 hcb WK NW MK
  unfold ptrV at *
  go_upto_block 0 with (fail)
  obtain ⟨w1, hw1⟩ : ∃ w1, w1 = wb.alloc (.cells (rowCells (fun _ => 0) 8192).toArray 5 (0, 0)) := ⟨_, rfl⟩
  obtain ⟨G, hG⟩ : ∃ G, G = wb.heap.size := ⟨_, rfl⟩
  have hk : KSS w w1 b m G := by
    refine ⟨[], fun _ => 0, HM.out.frame (by rw [hw1]; exact (Chg.refl _ _).alloc _) fun _ _ => id, by rw [hw1, hG]; exact blk_alloc_at _ _ _ rfl, fun _ _ => rfl, fun h => ?_, fun i hi => ?_, ?_, ?_⟩
    · have := HM.out.lt _ h; omega
    · rcases hi with rfl | rfl | h
      · exact Nat.le_trans HSZ.out HB.out.1
      · exact Nat.le_trans HSZ.out HB.out.2
      · simp at h
    · rw [hG]; exact CB.out.size
    · rw [hw1]; exact CB.out.alloc _
  rw [← hw1, ← hG]
  have HK := Lib.hid hk
  have hGw : G < w1.heap.size := by rw [hw1, hG]; simp
  clear hw1 hG hk mk CB HM HB HSZ CA
  go_cut [5] from 48 to 196 (fun s5 wq => KSS w wq b m G)
  case first =>
    go_wp2_with fail
    go_loopw [5, 7] (fun s5 s7 wr => ∃ i : Nat, s7 = .int .i64 i ∧ i ≤ 60 ∧ KSS w wr b m G) (fun _ s7 _ => 60 - (intOf s7).toNat)
    case atStart => exact ⟨0, rfl, by omega, HK.out⟩
    case round =>
      obtain ⟨i, rfl, hi6, hks⟩ := hrel
      have HK := Lib.hid hks
      clear hks
      by_cases q1 : i < ps.length
      · by_cases q2 : i < 60
        · obtain ⟨a, dv, rfl, e0, e1, e2, e3, e4, e5, hbs, hok⟩ := HP.out i _ (List.getElem?_eq_getElem q1)
          generalize hpp : ps[i] = p at *
          clear hpp
          obtain ⟨kd, ra, rt, rn, V, data⟩ := p
          dsimp only at e0 e1 e2 e3 e4 e5 hbs hok
          obtain ⟨k0, k1, k2, k3, v0, v1⟩ := hok
          dsimp only at k0 k1 k2 k3 v0 v1
          have hcw : Chg (fun _ => False) w wr := by obtain ⟨pg, f, hk⟩ := HK.out; exact hk.chg
          obtain ⟨a', dv', ha', e0', _⟩ := HP.out 0 _ (List.getElem?_eq_getElem (show 0 < ps.length by omega))
          obtain rfl := Option.some.inj ha'
          obtain ⟨ga, oo, sp⟩ := a
          have hsp : sp = none := by simpa [Addr.add] using World.cell?_spot e0'
          subst hsp
          clear e0' ha'
          rw [addr_add] at e0 e1 e2 e3 e4 e5
          have BS := Lib.hid (hbs.frame hcw fun _ _ => id)
          have d0 := cell_frame hcw (fun _ _ => id) e0
          have d1 := cell_frame hcw (fun _ _ => id) e1
          have d2 := cell_frame hcw (fun _ _ => id) e2
          have d3 := cell_frame hcw (fun _ _ => id) e3
          have d4 := cell_frame hcw (fun _ _ => id) e4
          have d5 := cell_frame hcw (fun _ _ => id) e5
          obtain ⟨od, cd, hdv, hd1, hd2, hd3, hd4⟩ := BS.out
          subst hdv
          have hsb : ∀ a, od = some a → 0 < data.length → a.block < w.heap.size := fun a ha hl => by
            obtain ⟨ob, c, h1, _, _, _, h5⟩ := hbs
            simp only [Value.slice.injEq] at h1
            obtain ⟨rfl, _, _⟩ := h1
            obtain ⟨a', ha', hc, _⟩ := h5 0 _ (List.getElem?_eq_getElem hl)
            rw [ha] at ha'
            cases ha'
            have := World.block_lt_of_cell? _ _ hc
            simpa [Addr.add] using (show (a.add 0).block < w.heap.size from this)
          have SB := Lib.hid hsb
          clear hsb
          have HD := Lib.hid (And.intro hd1 (And.intro hd2 (And.intro hd3 hd4)))
          have q1' : (i : Int) < (ps.length : Int) := by omega
          have a5 : oo + (i * 6 + 1) = oo + i * 6 + 1 := by omega
          have a6 : oo + (i * 6 + 2) = oo + i * 6 + 2 := by omega
          have a7 : oo + (i * 6 + 3) = oo + i * 6 + 3 := by omega
          have a8 : oo + (i * 6 + 4) = oo + i * 6 + 4 := by omega
          have a9 : oo + (i * 6 + 5) = oo + i * 6 + 5 := by omega
          rw [a5] at d1
          rw [a6] at d2
          rw [a7] at d3
          rw [a8] at d4
          rw [a9] at d5
          have bA := pickI_bd ra 8192 (by omega)
          obtain ⟨A, hA⟩ : ∃ A : Nat, (A : Int) = pickI ra 8192 := ⟨(pickI ra 8192).toNat, by omega⟩
          have PA := Lib.hid (fun (wy : World) => (by have := pick_any ra 8192 k1 (by omega) (by omega) wy; rw [← hA] at this; exact this.mono fun _ _ h => ⟨h.1, h.2.symm⟩ : Calls Try.prog 14 #[.int .i64 ra, .int .i64 8192] wy fun e w' => e = .returned (.int .i64 A) ∧ wy = w'))
          rw [← hA] at bA
          have A1 : (A : Int) ≤ 8191 := by omega
          have bN := pickI_bd rn (8192 - (A : Int) + 1) (by omega)
          obtain ⟨N, hN⟩ : ∃ N : Nat, (N : Int) = pickI rn (8192 - (A : Int) + 1) := ⟨(pickI rn (8192 - (A : Int) + 1)).toNat, by omega⟩
          have PN := Lib.hid (fun (wy : World) => (by have := pick_any rn (8192 - (A : Int) + 1) k3 (by omega) (by omega) wy; rw [← hN] at this; exact this.mono fun _ _ h => ⟨h.1, h.2.symm⟩ : Calls Try.prog 14 #[.int .i64 rn, .int .i64 (8192 - (A : Int) + 1)] wy fun e w' => e = .returned (.int .i64 N) ∧ wy = w'))
          rw [← hN] at bN
          have AN : (A : Int) + N ≤ 8192 := by omega
          have PK := Lib.hid (fun (wy : World) => (pick_any kd 4 k0 (by omega) (by omega) wy).mono (R' := fun e w' => e = .returned (.int .i64 (pickI kd 4)) ∧ wy = w') fun _ _ h => ⟨h.1, h.2.symm⟩)
          have yb := pickI_bd kd 4 (by omega)
          have N3 := Lib.hid (And.intro k3 k2)
          generalize pickI kd 4 = y at *
          clear hA hN bA bN e0 e1 e2 e3 e4 e5 hbs k0 k1 k2 k3 a5 a6 a7 a8 a9 hd1 hd2 hd3 hd4 hcw
          go_upto_region 10 with (fail)
          obtain ⟨wy, hwy⟩ : ∃ wy, wy = wr.alloc (.cells #[.int .i64 kd, .int .i64 ra, .int .i64 rt, .int .i64 rn, .int .u32 V, .slice od data.length cd] 64 (0, 0)) := ⟨_, rfl⟩
          obtain ⟨P, hP⟩ : ∃ P, P = wr.heap.size := ⟨_, rfl⟩
          have xP : blk wy P = some (.cells #[.int .i64 kd, .int .i64 ra, .int .i64 rt, .int .i64 rn, .int .u32 V, .slice od data.length cd] 64 (0, 0)) := by rw [hwy, hP]; exact blk_alloc_at _ _ _ rfl
          have hcy : Chg (fun _ => False) wr wy := by rw [hwy]; exact (Chg.refl _ _).alloc _
          have HKY := Lib.hid (HK.out.frame0 hcy)
          have BSY := Lib.hid (BS.out.frame hcy fun _ _ => id)
          have XP := Lib.hid xP
          have ksz : G < P := by
            obtain ⟨pg, f, hk⟩ := HK.out
            rw [hP]
            exact blk_lt hk.row
          rw [← hwy, ← hP]
          have c0 : wy.cell? ⟨P, 0, none⟩ = some (.int .i64 kd) := cell_of_blk xP 0
          have c1 : wy.cell? ⟨P, 1, none⟩ = some (.int .i64 ra) := cell_of_blk xP 1
          have c2 : wy.cell? ⟨P, 2, none⟩ = some (.int .i64 rt) := cell_of_blk xP 2
          have c3 : wy.cell? ⟨P, 3, none⟩ = some (.int .i64 rn) := cell_of_blk xP 3
          have c4 : wy.cell? ⟨P, 4, none⟩ = some (.int .u32 V) := cell_of_blk xP 4
          have c5 : wy.cell? ⟨P, 5, none⟩ = some (.slice od data.length cd) := cell_of_blk xP 5
          clear hwy hP xP hcy BS HK d0 d1 d2 d3 d4 d5
          go_wp2_with fail
          refine (PA.out _).mono ?_
          rintro e w2 ⟨rfl, rfl⟩
          go_wp2_with fail
          refine (PN.out _).mono ?_
          rintro e w3 ⟨rfl, rfl⟩
          go_wp2_with fail
          refine (PK.out _).mono ?_
          rintro e w4 ⟨rfl, rfl⟩
          clear PA PN PK c0 c1
          go_upto_block 2 with (fail)
          go_cut [5] from 48 to 196 (fun s5 wq => s5 = .int .i64 0 ∧ KSS w wq b m G)
          case first =>
            obtain ⟨pg, f, hk⟩ := HKY.out
            have HKF := Lib.hid hk
            clear hk
            by_cases e0 : y = 0
            · as_aux_lemma =>
              have f0 : (y == 0) = true := by simp [e0]
              clear e0
              have PZ := Lib.hid (fun (wy : World) => (pick_any rn 3 N3.out.1 (by omega) (by omega) wy).mono (R' := fun e w' => e = .returned (.int .i64 (pickI rn 3)) ∧ wy = w') fun _ _ h => ⟨h.1, h.2.symm⟩)
              have zb := pickI_bd rn 3 (by omega)
              generalize pickI rn 3 = z at *
              go_upto_region 15 with (fail)
              obtain ⟨wz, hwz⟩ : ∃ wz, wz = wy.alloc (.cells #[.int .i64 1, .int .i64 2, .int .i64 4] 3 (0, 0)) := ⟨_, rfl⟩
              obtain ⟨Q, hQ⟩ : ∃ Q, Q = wy.heap.size := ⟨_, rfl⟩
              have xQ : blk wz Q = some (.cells #[.int .i64 1, .int .i64 2, .int .i64 4] 3 (0, 0)) := by rw [hwz, hQ]; exact blk_alloc_at _ _ _ rfl
              have hcz : Chg (fun _ => False) wy wz := by rw [hwz]; exact (Chg.refl _ _).alloc _
              rw [← hwz, ← hQ]
              have CZ := Lib.hid hcz
              have y0 : wz.cell? ⟨Q, 0, none⟩ = some (.int .i64 1) := cell_of_blk xQ 0
              have y1 : wz.cell? ⟨Q, 1, none⟩ = some (.int .i64 2) := cell_of_blk xQ 1
              have y2 : wz.cell? ⟨Q, 2, none⟩ = some (.int .i64 4) := cell_of_blk xQ 2
              have d3 : wz.cell? ⟨P, 3, none⟩ = some (.int .i64 rn) := cell_of_blk (hcz.blk' XP.out id) 3
              have d4 : wz.cell? ⟨P, 4, none⟩ = some (.int .u32 V) := cell_of_blk (hcz.blk' XP.out id) 4
              have xP := hcz.blk' XP.out id
              clear hwz hQ xQ hcz c2 c3 c4 c5
              go_cut [12] from 76 to 94 (fun s12 wq => (∃ W : Nat, s12 = .int .i64 W ∧ (W = 1 ∨ W = 2 ∨ W = 4)) ∧ wz = wq)
              case first =>
                go_wp2_with fail
                refine (PZ.out _).mono ?_
                rintro e w5 ⟨rfl, rfl⟩
                have zz : z = 0 ∨ z = 1 ∨ z = 2 := by omega
                clear zb PZ
                rcases zz with rfl | rfl | rfl
                · go_wp2
                  go_meet
                  case rel => exact ⟨⟨1, rfl, .inl rfl⟩, rfl⟩
                · go_wp2
                  go_meet
                  case rel => exact ⟨⟨2, rfl, .inr (.inl rfl)⟩, rfl⟩
                · go_wp2
                  go_meet
                  case rel => exact ⟨⟨4, rfl, .inr (.inr rfl)⟩, rfl⟩
              case rest =>
                obtain ⟨⟨W, rfl, hW⟩, rfl⟩ := hcut
                have W1 : 1 ≤ W := by omega
                have W4 : W ≤ 4 := by omega
                obtain ⟨B, hB⟩ : ∃ B : Nat, B = A / W * W := ⟨_, rfl⟩
                have hB1 : B ≤ 8191 := by rw [hB]; have := Nat.div_mul_le_self A W; omega
                have hB2 : B + W ≤ 8192 := by rcases hW with rfl | rfl | rfl <;> omega
                have hB3 : B % W = 0 := by rw [hB]; exact Nat.mul_mod_left _ _
                have ZB := Lib.hid (show wordE 3 (B : Int) W = 0 by
                  unfold wordE
                  rw [if_neg (by omega), if_neg (by omega), placeE_ok (by omega)])
                have hK2 := HKF.out.frame0 CZ.out
                have ST := Lib.hid (store_ok hK2.mem (a := B) (n := W) (v := V) ⟨v0, v1⟩ (by omega) ZB.out)
                have HK2 := Lib.hid hK2
                have XPz := Lib.hid xP
                have HWW := Lib.hid hW
                have HBE := Lib.hid hB
                clear hB hB3 hK2 xP y0 y1 y2 hW PZ zb
                unfold ptrV at *
                go_upto_region 16 with (fail)
                go_cut [9] from 83 to 94 (fun s9 wq => s9 = .int .i64 B ∧ wz = wq)
                case first =>
                  rcases HWW.out with rfl | rfl | rfl
                  · go_wp2
                    go_meet
                    case rel => exact ⟨congrArg (Value.int .i64) (by rw [HBE.out]; simp), rfl⟩
                  · go_wp2
                    go_meet
                    case rel => exact ⟨congrArg (Value.int .i64) (by rw [HBE.out]; simp), rfl⟩
                  · go_wp2
                    go_meet
                    case rel => exact ⟨congrArg (Value.int .i64) (by rw [HBE.out]; simp), rfl⟩
                case rest =>
                obtain ⟨rfl, rfl⟩ := hcut
                go_wp2_with fail
                refine ST.out.mono ?_
                rintro e w6 ⟨rfl, hwr⟩
                have hxP6 : blk w6 P = some (.cells #[.int .i64 kd, .int .i64 ra, .int .i64 rt, .int .i64 rn, .int .u32 V, .slice od data.length cd] 64 (0, 0)) := by
                  obtain ⟨_, _, hc6, _⟩ := hwr
                  exact hc6.blk' XPz.out (HK2.out.mem.not_foot XPz.out (by decide) (by decide))
                obtain ⟨pg6, hk6⟩ := HK2.out.wrote hB2 hwr
                have HK6 := Lib.hid hk6
                have X6 := Lib.hid hxP6
                clear hwr hk6 hxP6 d3 d4
                go_wp2_with fail
                go_loopw [13] (fun s13 wr => ∃ k : Nat, s13 = .int .i64 k ∧ k ≤ W ∧ KS w wr b m G pg6 (put f B W (byteOf V)) (put f B k (byteOf V)) ∧ blk wr P = some (.cells #[.int .i64 kd, .int .i64 ra, .int .i64 rt, .int .i64 rn, .int .u32 V, .slice od data.length cd] 64 (0, 0))) (fun s13 _ => W - (intOf s13).toNat)
                case atStart => exact ⟨0, rfl, by omega, by rw [put_none]; exact HK6.out, X6.out⟩
                case round =>
                  obtain ⟨k, rfl, hkW, hks, hxp⟩ := hrel
                  have HKS := Lib.hid hks
                  have HXP := Lib.hid hxp
                  have z4 : wr.cell? ⟨P, 4, none⟩ = some (.int .u32 V) := cell_of_blk hxp 4
                  have zF : wr.frozen? ⟨G, B + k, none⟩ = false := frozen_of_blk hks.row _
                  clear hks hxp
                  by_cases qk : k < W
                  · have qk' : (k : Int) < (W : Int) := by omega
                    have zG : wr.cell? ⟨G, B + k, none⟩ = some (.int .u8 (put f B k (byteOf V) (B + k))) := by
                      rw [cell_of_blk HKS.out.row]
                      rw [List.getElem?_toArray, getElem_rowCells _ _ _ (by omega)]
                    go_wp2
                    go_roundw
                    case rel => exact ⟨k + 1, by go_num, by omega, HKS.out.byte (byte_pow V k), by rw [blk_setCell_ne _ _ _ _ (by dsimp only; omega)]; exact HXP.out⟩
                    case measure => simp [intOf]; omega
                  · have hkw : k = W := by omega
                    subst hkw
                    go_wp2
                    go_meet
                    case rel => exact ⟨rfl, pg6, _, HKS.out⟩
            · have f0 : (y == 0) = false := beq_eq_false_iff_ne.2 e0
              by_cases e1 : y = 1
              · as_aux_lemma =>
                have f1 : (y == 1) = true := by simp [e1]
                clear e1 e0
                obtain ⟨od2, cd2, hdv2, hd1, hd2, hd3, hd4⟩ := BSY.out
                simp only [Value.slice.injEq, true_and] at hdv2
                obtain ⟨rfl, rfl⟩ := hdv2
                have HD4 := Lib.hid hd4
                have HD3 := Lib.hid hd3
                have HMX := Lib.hid hd2
                clear hd3 hd4
                unfold maxLen at hd2
                obtain ⟨L, hL⟩ : ∃ L, L = min data.length (8192 - A) := ⟨_, rfl⟩
                have hL1 : L ≤ data.length := by omega
                have hL2 : A + L ≤ 8192 := by omega
                clear c2 c3
                go_upto_if 119 with (fail)
                go_cut [14] from 115 to 123 (fun s14 wq => s14 = .slice od L cd ∧ wy = wq)
                case first =>
                  by_cases ql : 8192 - (A : Int) < data.length
                  · have e : L = 8192 - A := by omega
                    have e' : (8192 - (A : Int)).toNat = L := by omega
                    have e'' : 8192 - A = L := e.symm
                    have q1 : 0 ≤ 8192 - (A : Int) := by omega
                    have q3 : 8192 - (A : Int) ≤ cd := by omega
                    have HE := Lib.hid e''
                    have q5 : decide (8192 - (A : Int) < (data.length : Int)) = true := by simp; omega
                    clear e e' e''
                    go_wp2
                    go_meet
                    case rel => exact ⟨by rw [HE.out], rfl⟩
                  · have e : L = data.length := by omega
                    have HE := Lib.hid e
                    clear e
                    go_wp2
                    go_meet
                    case rel => exact ⟨by rw [HE.out], rfl⟩
                case rest =>
                  obtain ⟨rfl, rfl⟩ := hcut
                  obtain ⟨M, hM⟩ : ∃ M, M = L / 2 := ⟨_, rfl⟩
                  have hM1 : M ≤ L := by omega
                  have eM : (L : Int) / 2 = (M : Int) := by omega
                  have eMt : (L : Int).tdiv 2 = (M : Int) := by rw [Int.tdiv_eq_ediv_of_nonneg (by omega)]; exact eM
                  have hKm := HKF.out
                  have hdl : (data.take L).length = L := by rw [List.length_take]; omega
                  by_cases hL0 : L = 0
                  · as_aux_lemma =>
                    have hM0 : M = 0 := by omega
                    clear hM hL hM1 eM eMt hdl
                    subst hM0
                    subst hL0
                    have WR := Lib.hid (fun (wx : World) (g : Nat) (t : TypeId) (o1 o2 : Option Addr) (c1 c2 : Nat) (hx : Chg (fun _ => False) wy wx) (hg : blk wx g = some (.cells #[.slice o1 0 c1, .slice none 0 0, .slice o2 0 c2] t (0, 0))) (h1 : o1 = none → c1 = 0) (h2 : o2 = none → c2 = 0) (h3 : c1 ≤ maxLen) (h4 : c2 ≤ maxLen) => (by
                      have hpa : PartsAre wx (some ⟨g, 0, none⟩) [[], [], []] := by
                        intro i x hix
                        match i, hix with
                        | 0, hix =>
                          simp at hix
                          subst hix
                          exact ⟨_, o1, c1, rfl, by rw [addr_add, cell_of_blk hg]; rfl, by simp, h3, h1, fun j bb hb => by simp at hb⟩
                        | 1, hix =>
                          simp at hix
                          subst hix
                          exact ⟨_, none, 0, rfl, by rw [addr_add, cell_of_blk hg]; rfl, by simp, by simp, (fun _ => rfl), fun j bb hb => by simp at hb⟩
                        | 2, hix =>
                          simp at hix
                          subst hix
                          exact ⟨_, o2, c2, rfl, by rw [addr_add, cell_of_blk hg]; rfl, by simp, h4, h2, fun j bb hb => by simp at hb⟩
                        | n + 3, hix => simp at hix
                      have hkx := hKm.frame0 hx
                      have hcat : (cat [[], [], []]).length = 0 := by unfold cat; simp
                      refine (writeM_ok (cap := 3) hkx.mem hpa (by simp) (a := A) (by rw [hcat]; omega)).mono ?_
                      rintro e w' ⟨rfl, hwr⟩
                      rw [hcat] at hwr
                      obtain ⟨pg', hk'⟩ := hkx.wrote (by omega) hwr
                      rw [put_none] at hk'
                      exact ⟨rfl, pg', hk'⟩ : Calls Try.prog 34 #[ptrV b, .int .u32 A, .slice (some ⟨g, 0, none⟩) 3 3] wx fun e w' => e = .returned (.int .i64 0) ∧ ∃ pg', KS w w' b m G pg' f f))
                    have z1 : Int.tdiv 0 2 = 0 := by decide
                    have z2 : IntKind.i64.wrap 0 = 0 := by rw [IntKind.wrap_i64]; omega
                    have z3 : (0 : Int) ≤ 0 := by omega
                    have z4 : (0 : Int) ≤ (cd : Int) := by omega
                    have eA : IntKind.u32.wrap (A : Int) = (A : Int) := by rw [IntKind.wrap_u32]; omega
                    have a8 : ¬ (8192 = A) := by omega
                    clear c4 c5 hKm
                    unfold ptrV at *
                    cases od with
                    | none =>
                      obtain rfl := HD3.out rfl
                      have WR2 := Lib.hid (WR.out (wy.alloc (.cells #[.slice none 0 0, .slice none 0 0, .slice none 0 0] 58 (0, 0))).drew wy.heap.size 58 none none 0 0 ((Chg.refl _ _).alloc _).drew (blk_alloc_at _ _ _ rfl) (fun _ => rfl) (fun _ => rfl) (by simp) (by simp))
                      clear WR
                      go_upto_region 26 with (fail)
                      go_region_held3 (fun w' => True) (first | trivial | go_keep) (first | (go_at_call 34; (with_reducible refine WR2.out.mono ?_); rintro e w6 ⟨rfl, pg6, hk6⟩))
                      have HK6 := Lib.hid hk6
                      have hcp : (Builtin.copy_ #[58, 58] 3 #[.slice (some ⟨G, A, none⟩) (8192 - A) (8192 - A), .slice none 0 0]).run Try.prog w6 = .ok (.int .i64 0) w6 := run_copy_none w6 58 58 3 5 (some ⟨G, A, none⟩) none (8192 - A) (8192 - A) 0 0 Try.underlying58 info5 (by simp)
                      clear hk6 WR2
                      go_wp2
                      go_meet
                      case rel => exact ⟨rfl, pg6, _, HK6.out⟩
                    | some a =>
                      by_cases hc0 : cd = 0
                      · subst hc0
                        have WR2 := Lib.hid (WR.out (wy.alloc (.cells #[.slice (some a) 0 0, .slice none 0 0, .slice (some a) 0 0] 58 (0, 0))).drew wy.heap.size 58 (some a) (some a) 0 0 ((Chg.refl _ _).alloc _).drew (blk_alloc_at _ _ _ rfl) (fun _ => rfl) (fun _ => rfl) (by simp) (by simp))
                        clear WR
                        go_upto_region 26 with (fail)
                        go_region_held3 (fun w' => True) (first | trivial | go_keep) (first | (go_at_call 34; (with_reducible refine WR2.out.mono ?_); rintro e w6 ⟨rfl, pg6, hk6⟩))
                        have HK6 := Lib.hid hk6
                        have hcp : (Builtin.copy_ #[58, 58] 3 #[.slice (some ⟨G, A, none⟩) (8192 - A) (8192 - A), .slice (some a) 0 0]).run Try.prog w6 = .ok (.int .i64 0) w6 := run_copy_none w6 58 58 3 5 (some ⟨G, A, none⟩) (some a) (8192 - A) (8192 - A) 0 0 Try.underlying58 info5 (by simp)
                        clear hk6 WR2
                        go_wp2
                        go_meet
                        case rel => exact ⟨rfl, pg6, _, HK6.out⟩
                      · have WR2 := Lib.hid (WR.out (wy.alloc (.cells #[.slice (some a) 0 cd, .slice none 0 0, .slice (some a) 0 cd] 58 (0, 0))).drew wy.heap.size 58 (some a) (some a) cd cd ((Chg.refl _ _).alloc _).drew (blk_alloc_at _ _ _ rfl) (fun h => by cases h) (fun h => by cases h) HMX.out HMX.out)
                        clear WR
                        go_upto_region 26 with (fail)
                        go_region_held3 (fun w' => True) (first | trivial | go_keep) (first | (go_at_call 34; (with_reducible refine WR2.out.mono ?_); rintro e w6 ⟨rfl, pg6, hk6⟩))
                        have HK6 := Lib.hid hk6
                        have hcp : (Builtin.copy_ #[58, 58] 3 #[.slice (some ⟨G, A, none⟩) (8192 - A) (8192 - A), .slice (some a) 0 cd]).run Try.prog w6 = .ok (.int .i64 0) w6 := run_copy_none w6 58 58 3 5 (some ⟨G, A, none⟩) (some a) (8192 - A) (8192 - A) 0 cd Try.underlying58 info5 (by simp)
                        clear hk6 WR2
                        go_wp2
                        go_meet
                        case rel => exact ⟨rfl, pg6, _, HK6.out⟩
                  · as_aux_lemma =>
                    obtain ⟨s0, so, rfl⟩ : ∃ s0 so, od = some ⟨s0, so, none⟩ := by
                      obtain ⟨a, rfl, ha, _⟩ := HD4.out 0 _ (List.getElem?_eq_getElem (show 0 < data.length by omega))
                      obtain ⟨s0, so, sp⟩ := a
                      have : sp = none := by simpa [Addr.add] using World.cell?_spot ha
                      subst this
                      exact ⟨s0, so, rfl⟩
                    have hcells : ∀ j, j < L → wy.cell? ⟨s0, so + j, none⟩ = some (.int .u8 (at0 (data.take L) j)) ∧ 0 ≤ at0 (data.take L) j ∧ at0 (data.take L) j ≤ 255 := fun j hj => by
                      obtain ⟨a, ha, hc, h1, h2⟩ := HD4.out j _ (List.getElem?_eq_getElem (show j < data.length by omega))
                      cases ha
                      rw [addr_add] at hc
                      have e : at0 (data.take L) j = data[j] := by
                        unfold at0
                        rw [List.getD_eq_getElem?_getD, List.getElem?_take_of_lt hj, List.getElem?_eq_getElem (show j < data.length by omega)]
                        rfl
                      rw [e]
                      exact ⟨hc, h1, h2⟩
                    have hget : ∀ j b, (data.take L)[j]? = some b → j < L ∧ b = at0 (data.take L) j := fun j b hb => by
                      refine ⟨by have := (List.getElem?_eq_some_iff.1 hb).1; omega, ?_⟩
                      unfold at0
                      rw [List.getD_eq_getElem?_getD, hb]
                      rfl
                    have hcat : cat [(data.take L).take M, [], (data.take L).drop M] = data.take L := by unfold cat; simp
                    have hlen3 : ((data.take L).drop M).length = L - M := by rw [List.length_drop, hdl]
                    have hlen1 : ((data.take L).take M).length = M := by rw [List.length_take, hdl]; omega
                    have WR := Lib.hid (fun (wx : World) (g : Nat) (t : TypeId) (hx : Chg (fun _ => False) wy wx) (hg : blk wx g = some (.cells #[.slice (some ⟨s0, so, none⟩) M cd, .slice none 0 0, .slice (some ⟨s0, so + M, none⟩) (L - M) (cd - M)] t (0, 0))) => (by
                      have hpa : PartsAre wx (some ⟨g, 0, none⟩) [(data.take L).take M, [], (data.take L).drop M] := by
                        intro i x hix
                        match i, hix with
                        | 0, hix =>
                          simp at hix
                          subst hix
                          refine ⟨_, some ⟨s0, so, none⟩, cd, rfl, ?_, by rw [hlen1]; omega, HMX.out, (fun h => by cases h), fun j bb hb => ?_⟩
                          · rw [hlen1, addr_add, cell_of_blk hg]; rfl
                          · obtain ⟨hj, hbe⟩ := hget j bb (by
                              have hjM : j < M := by have := (List.getElem?_eq_some_iff.1 hb).1; omega
                              rwa [List.getElem?_take_of_lt hjM] at hb)
                            obtain ⟨h1, h2, h3⟩ := hcells j hj
                            rw [hbe]
                            exact ⟨_, rfl, by rw [addr_add]; exact cell_frame hx (fun _ _ => id) h1, h2, h3⟩
                        | 1, hix =>
                          simp at hix
                          subst hix
                          refine ⟨_, none, 0, rfl, ?_, by simp, by simp, (fun _ => rfl), fun j bb hb => by simp at hb⟩
                          rw [addr_add, cell_of_blk hg]; rfl
                        | 2, hix =>
                          simp at hix
                          subst hix
                          refine ⟨_, some ⟨s0, so + M, none⟩, cd - M, rfl, ?_, by rw [hlen3]; omega, by unfold maxLen; omega, (fun h => by cases h), fun j bb hb => ?_⟩
                          · rw [hlen3, addr_add, cell_of_blk hg]; rfl
                          · rw [List.getElem?_drop] at hb
                            obtain ⟨hj, hbe⟩ := hget (M + j) bb hb
                            obtain ⟨h1, h2, h3⟩ := hcells (M + j) hj
                            rw [hbe]
                            exact ⟨_, rfl, by rw [addr_add, Nat.add_assoc]; exact cell_frame hx (fun _ _ => id) h1, h2, h3⟩
                        | n + 3, hix => simp at hix
                      have hkx := hKm.frame0 hx
                      refine (writeM_ok (cap := 3) hkx.mem hpa (by simp) (a := A) (by rw [hcat, hdl]; omega)).mono ?_
                      rintro e w' ⟨rfl, hwr⟩
                      rw [hcat, hdl] at hwr
                      obtain ⟨pg', hk'⟩ := hkx.wrote hL2 hwr
                      have hcw : ∀ s : Nat, s = s0 → ∀ cs t fr, blk wx s = some (.cells cs t fr) → t ≠ 98 → t ≠ 116 → blk w' s = some (.cells cs t fr) := fun s _ cs t fr hb h1 h2 => by
                        obtain ⟨_, _, hc, _⟩ := hwr
                        exact hc.blk' hb (hkx.mem.not_foot hb h1 h2)
                      exact ⟨rfl, pg', hk', hwr⟩ : Calls Try.prog 34 #[ptrV b, .int .u32 A, .slice (some ⟨g, 0, none⟩) 3 3] wx fun e w' => e = .returned (.int .i64 0) ∧ ∃ pg', KS w w' b m G pg' (put f A L (at0 (data.take L))) f ∧ Wrote wx w' b m pg 3 (put f A L (at0 (data.take L)))))
                    have HCE := Lib.hid hcells
                    have HKM := Lib.hid hKm
                    have q4 : (M : Int) ≤ (cd : Int) := by omega
                    have q5 : ¬ (cd = M) := by omega
                    have q6 : (L : Int) ≤ (cd : Int) := by omega
                    have q7 : (M : Int) ≤ (L : Int) := by omega
                    have q8 : (0 : Int) ≤ (M : Int) := by omega
                    have eW : IntKind.i64.wrap (M : Int) = (M : Int) := by rw [IntKind.wrap_i64]; omega
                    have eW2 : IntKind.i64.wrap ((L : Int) / 2) = (M : Int) := by rw [eM]; exact eW
                    have eW3 : IntKind.i64.wrap ((L : Int).tdiv 2) = (M : Int) := by rw [eMt]; exact eW
                    clear hcells hget hcat hlen3 hlen1 hKm hM hdl hL c4 c5
                    unfold ptrV at *
                    go_upto_region 26 with (fail)
                    have WR2 := Lib.hid (WR.out (wy.alloc (.cells #[.slice (some ⟨s0, so, none⟩) M cd, .slice none 0 0, .slice (some ⟨s0, so + M, none⟩) (L - M) (cd - M)] 58 (0, 0))).drew wy.heap.size 58 ((Chg.refl _ _).alloc _).drew (blk_alloc_at _ _ _ rfl))
                    have eA : IntKind.u32.wrap (A : Int) = (A : Int) := by rw [IntKind.wrap_u32]; omega
                    clear WR
                    go_region_held3 (fun w' => True) (first | trivial | go_keep) (first | (go_at_call 34; (with_reducible refine WR2.out.mono ?_); rintro e w6 ⟨rfl, pg6, hk6, hwr6⟩))
                    have hs0 : s0 < w.heap.size := SB.out _ rfl (by omega)
                    have hnf : ¬ Foot b m pg s0 := fun h => by have := HKM.out.new _ h; omega
                    have hcp := copy_row (g := G) (s0 := s0) (so := so) (n := 8192) (m := A) (e := L) (c := cd) (dl := 8192 - A) (dc := 8192 - A) (sl := L) (bs := at0 (data.take L)) w6 hk6.row (fun j hj => by
                      obtain ⟨_, _, hc6, _⟩ := hwr6
                      exact cell_keepF hc6 (cell_frame (S := fun _ => False) (((Chg.refl _ _).alloc _).drew) (fun _ _ => id) (HCE.out j hj).1) hnf) (by show L = min L (8192 - A); omega) (by omega)
                    have hb6 : blk (w6.setRow G (rowCells (put f A L (at0 (data.take L))) 8192).toArray) G = some (.cells (rowCells (put f A L (at0 (data.take L))) 8192).toArray 5 (0, 0)) := blk_setRow_eq _ _ _ _ _ _ hk6.row
                    have HK8 := Lib.hid (hk6.know (chg_setRow (S := fun i => i = G) (Chg.refl _ _) (fun _ => rfl) _) hb6)
                    have a8 : ¬ (8192 = A) := by omega
                    clear hk6 hwr6 hb6 hnf WR2 HCE
                    go_wp2
                    go_meet
                    case rel => exact ⟨rfl, pg6, _, HK8.out⟩
              · have f1 : (y == 1) = false := beq_eq_false_iff_ne.2 e1
                by_cases e2 : y = 2
                · as_aux_lemma =>
                  have f2 : (y == 2) = true := by simp [e2]
                  clear e2 e1 e0
                  have bv0 : 0 ≤ V % 256 := by omega
                  have bv1 : V % 256 ≤ 255 := by omega
                  have FL := Lib.hid (fill_ok HKF.out.mem (a := A) (n := N) (bt := V % 256) ⟨bv0, bv1⟩ (by omega))
                  unfold ptrV at *
                  go_wp2_with fail
                  refine FL.out.mono ?_
                  rintro e w6 ⟨rfl, hwr⟩
                  have hxP6 : blk w6 P = some (.cells #[.int .i64 kd, .int .i64 ra, .int .i64 rt, .int .i64 rn, .int .u32 V, .slice od data.length cd] 64 (0, 0)) := by
                    obtain ⟨_, _, hc6, _⟩ := hwr
                    exact hc6.blk' XP.out (HKF.out.mem.not_foot XP.out (by decide) (by decide))
                  obtain ⟨pg6, hk6⟩ := HKF.out.wrote (by omega) hwr
                  have HK6 := Lib.hid hk6
                  have X6 := Lib.hid hxP6
                  clear hwr hk6 hxP6 c2 c3 c4 c5
                  go_wp2_with fail
                  go_loopw [15] (fun s15 wr => ∃ k : Nat, s15 = .int .i64 k ∧ k ≤ N ∧ KS w wr b m G pg6 (put f A N (fun _ => V % 256)) (put f A k (fun _ => V % 256)) ∧ blk wr P = some (.cells #[.int .i64 kd, .int .i64 ra, .int .i64 rt, .int .i64 rn, .int .u32 V, .slice od data.length cd] 64 (0, 0))) (fun s15 _ => N - (intOf s15).toNat)
                  case atStart => exact ⟨0, rfl, by omega, by rw [put_none]; exact HK6.out, X6.out⟩
                  case round =>
                    obtain ⟨k, rfl, hkW, hks, hxp⟩ := hrel
                    have HKS := Lib.hid hks
                    have HXP := Lib.hid hxp
                    have z4 : wr.cell? ⟨P, 4, none⟩ = some (.int .u32 V) := cell_of_blk hxp 4
                    have zF : wr.frozen? ⟨G, A + k, none⟩ = false := frozen_of_blk hks.row _
                    clear hks hxp
                    by_cases qk : k < N
                    · have qk' : (k : Int) < (N : Int) := by omega
                      have zG : wr.cell? ⟨G, A + k, none⟩ = some (.int .u8 (put f A k (fun _ => V % 256) (A + k))) := by
                        rw [cell_of_blk HKS.out.row]
                        rw [List.getElem?_toArray, getElem_rowCells _ _ _ (by omega)]
                      go_wp2
                      go_roundw
                      case rel => exact ⟨k + 1, by go_num, by omega, HKS.out.byte rfl, by rw [blk_setCell_ne _ _ _ _ (by dsimp only; omega)]; exact HXP.out⟩
                      case measure => simp [intOf]; omega
                    · have hkw : k = N := by omega
                      subst hkw
                      go_wp2
                      go_meet
                      case rel => exact ⟨rfl, pg6, _, HKS.out⟩
                · as_aux_lemma =>
                  have f2 : (y == 2) = false := beq_eq_false_iff_ne.2 e2
                  have f3 : (y == 3) = true := by simp; omega
                  clear e1 e2 e0
                  have bT := pickI_bd rt (8192 - (N : Int) + 1) (by omega)
                  obtain ⟨T, hT⟩ : ∃ T : Nat, (T : Int) = pickI rt (8192 - (N : Int) + 1) := ⟨(pickI rt (8192 - (N : Int) + 1)).toNat, by omega⟩
                  have PT := Lib.hid (fun (wy : World) => (by have := pick_any rt (8192 - (N : Int) + 1) N3.out.2 (by omega) (by omega) wy; rw [← hT] at this; exact this.mono fun _ _ h => ⟨h.1, h.2.symm⟩ : Calls Try.prog 14 #[.int .i64 rt, .int .i64 (8192 - (N : Int) + 1)] wy fun e w' => e = .returned (.int .i64 T) ∧ wy = w'))
                  rw [← hT] at bT
                  have TN : (T : Int) + N ≤ 8192 := by omega
                  have CP := Lib.hid (copy_ok HKF.out.mem (t := T) (a := A) (n := N) (by omega) (by omega))
                  clear hT bT
                  unfold ptrV at *
                  go_wp2_with fail
                  refine (PT.out _).mono ?_
                  rintro e w5 ⟨rfl, rfl⟩
                  go_wp2_with fail
                  refine CP.out.mono ?_
                  rintro e w6 ⟨rfl, hwr⟩
                  obtain ⟨pg6, hk6⟩ := HKF.out.wrote (by omega) hwr
                  have HK6 := Lib.hid hk6
                  have hsrc : SrcIs w6 1 (some ⟨G, A, none⟩) N ((List.range N).map fun j => Value.int .u8 (f (A + j))) := by
                    refine SrcIs.some (by simp) (fun u hu => by obtain ⟨j, _, rfl⟩ := List.mem_map.1 hu; rfl) fun j u hu => ?_
                    have hj : j < N := by have := (List.getElem?_eq_some_iff.1 hu).1; simpa using this
                    rw [List.getElem?_map, List.getElem?_range hj] at hu
                    simp at hu
                    subst hu
                    rw [addr_add, cell_of_blk hk6.row, List.getElem?_toArray, getElem_rowCells _ _ _ (by omega)]
                  have HSR := Lib.hid hsrc
                  obtain ⟨i0, hi, hz0, hz1, hz2⟩ := info5z
                  have hnil : w6.ownsRow 0 5 1 (.slice none 0 0) 0 [] := ⟨rfl, .inl ⟨rfl, rfl⟩⟩
                  have HNL := Lib.hid hnil
                  have eAN := Lib.hid (show A + N - A = N by omega)
                  clear hwr hk6 hsrc hnil c2 c3 c4 c5 PT CP
                  go_wp2_with (at_builtin; rw [eAN.out]; refine wpList_app rfl _ _ 58 rfl 0 5 i0 (.int .u8 0) 1 1 Try.underlying58 hi hz0 hz1 hz2 rfl (by decide) (.slice none 0 0) 0 [] (by rfl) HNL.out (some ⟨G, A, none⟩) N (8192 - A) _ (by rfl) HSR.out ?_ ?_ ?_ ?_ ?_)
                  · intro h; cases h
                  · unfold maxLen; omega
                  · omega
                  · omega
                  · intro v' w7 hown hgrow hlie
                    have hc7 : Chg (fun _ => False) w6 w7 := (Chg.of_grown hgrow).mono fun _ _ h => by simp [Value.ownBlock] at h
                    have HK7 := Lib.hid (HK6.out.frame0 hc7)
                    have HO := Lib.hid (show w7.ownsRow 0 5 1 v' N ((List.range N).map fun j => Value.int .u8 (f (A + j))) by first | exact hown | simpa using hown)
                    clear hown hgrow hlie hc7
                    obtain ⟨ov, cv, rfl, hw1, hw2, hw3, hw4⟩ := row_form HO.out
                    unfold maxLen at hw2
                    clear hw3 hw4
                    by_cases n0 : N = 0
                    · subst n0
                      have hcp : ∀ d dc, (Builtin.copy_ #[58, 58] 3 #[.slice d (8192 - T) dc, .slice ov 0 cv]).run Try.prog w7 = .ok (.int .i64 0) w7 := fun d dc => run_copy_none w7 58 58 3 5 d ov (8192 - T) dc 0 cv Try.underlying58 info5 (by simp)
                      have hf : put f T 0 (fun j => f (A + j)) = f := put_none _ _ _
                      rw [hf] at HK7
                      clear hf
                      by_cases t8 : T = 8192
                      · subst t8
                        go_wp2
                        go_meet
                        case rel => exact ⟨rfl, pg6, _, HK7.out⟩
                      · have t8' : ¬ (8192 = T) := fun h => t8 h.symm
                        go_wp2
                        go_meet
                        case rel => exact ⟨rfl, pg6, _, HK7.out⟩
                    · obtain ⟨g7, cap7, cur7, hv7, _, _, _, _, _, hat7⟩ := row_at HO.out (by omega)
                      simp only [Value.slice.injEq] at hv7
                      obtain ⟨rfl, _, rfl⟩ := hv7
                      have hcp := copy_row (g := G) (s0 := g7) (so := 0) (n := 8192) (m := T) (e := N) (c := cv) (dl := 8192 - T) (dc := 8192 - T) (sl := N) (bs := fun j => f (A + j)) w7 HK7.out.row (fun j hj => by
                        rw [Nat.zero_add]
                        exact hat7 j _ (by simp [hj])) (by show N = min N (8192 - T); omega) (by omega)
                      have hb7 : blk (w7.setRow G (rowCells (put f T N (fun j => f (A + j))) 8192).toArray) G = some (.cells (rowCells (put f T N (fun j => f (A + j))) 8192).toArray 5 (0, 0)) := blk_setRow_eq _ _ _ _ _ _ HK7.out.row
                      have HK8 := Lib.hid (HK7.out.know (chg_setRow (S := fun i => i = G) (Chg.refl _ _) (fun _ => rfl) _) hb7)
                      have t8' : ¬ (8192 = T) := by omega
                      clear hat7 hb7
                      go_wp2
                      go_meet
                      case rel => exact ⟨rfl, pg6, _, HK8.out⟩
          case rest =>
            as_aux_lemma =>
            obtain ⟨rfl, hk⟩ := hcut
            have HKK := Lib.hid hk
            clear hk
            go_wp2
            go_roundw
            case rel => exact ⟨i + 1, by go_num, by omega, HKK.out⟩
            case measure => simp [intOf]; omega
        · have q2' : ¬ ((i : Int) < 60) := by omega
          have q1' : (i : Int) < (ps.length : Int) := by omega
          go_wp2
          go_meet
          case rel => exact HK.out
      · have q1' : ¬ ((i : Int) < (ps.length : Int)) := by omega
        go_wp2
        go_meet
        case rel => exact HK.out
  case rest =>
    as_aux_lemma =>
    obtain ⟨pg, f, hk⟩ := hcut
    have HKF := Lib.hid hk
    have R1 := Lib.hid (readM_ok hk.mem (a := 0) (n := 8192) (by omega))
    have hby := hk.mem.byte
    have BY := Lib.hid hby
    clear hk hby HK HP
    unfold ptrV at *
    go_wp2_with fail
    refine R1.out.mono ?_
    rintro e w2 ⟨g1, rfl, hg1, hb1, hc2⟩
    have K2 := Lib.hid (HKF.out.frame0 hc2)
    have R2 := Lib.hid (readM_ok K2.out.mem (a := 8192) (n := 4096) (by omega))
    have HB1 := Lib.hid hb1
    clear hg1 hb1 hc2 R1
    unfold ptrV at *
    go_wp2_with fail
    refine R2.out.mono ?_
    rintro e w3 ⟨g2, rfl, hg2, hb2, hc3⟩
    have K3 := Lib.hid (K2.out.frame0 hc3)
    have hb13 := hc3.blk' HB1.out id
    have hz : rowCells (fun j => f (0 + j)) 8192 = rowCells f 8192 := rowCells_congr fun i _ => by rw [Nat.zero_add]
    rw [hz] at hb13
    have hbz : rowCells (fun j => f (8192 + j)) 4096 = rowCells (fun _ => 0) 4096 := rowCells_congr fun i _ => HKF.out.far _ (by omega)
    rw [hbz] at hb2
    have ba : ∀ g, blk w3 g = some (.cells (rowCells f 8192).toArray 5 (0, 0)) → BytesAt w3 (some ⟨g, 0, none⟩) ((List.range 8192).map f) := fun g hg j x hx => by
      have hj : j < 8192 := by have := (List.getElem?_eq_some_iff.1 hx).1; simpa using this
      rw [List.getElem?_map, List.getElem?_range hj] at hx
      simp at hx
      subst hx
      exact ⟨_, rfl, by rw [addr_add, Nat.zero_add, cell_of_blk hg, List.getElem?_toArray, getElem_rowCells _ _ _ hj], BY.out j⟩
    have SM := Lib.hid (show Calls Try.prog 37 #[.slice (some ⟨g1, 0, none⟩) 8192 8192, .slice (some ⟨G, 0, none⟩) 8192 8192] w3 fun e w' => e = .returned (.bool true) ∧ w3 = w' by
      have := same_ok (ca := 8192) (cb := 8192) (ba g1 hb13) (ba G K3.out.row)
      rw [decide_eq_true rfl, List.length_map, List.length_range] at this
      exact this)
    have HB2 := Lib.hid hb2
    clear hg2 hb2 hc3 hb13 hz hbz ba R2
    go_wp2_with fail
    refine SM.out.mono ?_
    rintro e w4 ⟨rfl, rfl⟩
    go_wp2_with fail
    go_loopw [22] (fun s22 wr => ∃ i : Nat, s22 = .int .i64 i ∧ i ≤ 4096 ∧ w3 = wr) (fun s22 _ => 4096 - (intOf s22).toNat)
    case atStart => exact ⟨0, rfl, by omega, rfl⟩
    case round =>
      as_aux_lemma =>
      obtain ⟨i, rfl, hi, rfl⟩ := hrel
      by_cases q : i < 4096
      · have q' : (i : Int) < 4096 := by omega
        have zc : w3.cell? ⟨g2, i, none⟩ = some (.int .u8 0) := by
          rw [cell_of_blk HB2.out, List.getElem?_toArray, getElem_rowCells _ _ _ q]
        go_wp2
        go_roundw
        case rel => exact ⟨i + 1, by go_num, by omega, by simp⟩
        case measure => simp [intOf]; omega
      · have hi2 : i = 4096 := by omega
        subst hi2
        go_wp2_with fail
        go_loopw [23] (fun s23 wr => ∃ k : Nat, s23 = .int .i64 (4 * k : Nat) ∧ k ≤ 2048 ∧ Chg (fun _ => False) w3 wr) (fun s23 _ => 8192 - (intOf s23).toNat)
        case atStart => exact ⟨0, rfl, by omega, Chg.refl _ _⟩
        case round =>
          as_aux_lemma =>
          obtain ⟨k, rfl, hk, hch⟩ := hrel
          have HC := Lib.hid hch
          clear hch
          by_cases q2 : k < 2048
          · have q3 : 4 * (k : Int) < 8192 := by omega
            have wz : ∀ (a n : Nat), (n = 1 ∨ n = 2 ∨ n = 4) → a % n = 0 → a + n ≤ 8192 → wordE 3 (a : Int) n = 0 := fun a n h1 h2 h3 => by
              unfold wordE
              rw [if_neg (by omega), if_neg (by omega), placeE_ok (by omega)]
            have ld : ∀ (wy : World), Chg (fun _ => False) w3 wy → ∀ (a n : Nat), (n = 1 ∨ n = 2 ∨ n = 4) → a % n = 0 → a + n ≤ 8192 → Calls Try.prog 16 #[ptrV b, .int .u32 a, .int .i64 n] wy fun e w' => e = .returned (.tuple #[.int .u32 (wordOf (fun j => f (a + j)) n), .int .i64 0]) ∧ Chg (fun _ => False) wy w' := fun wy hy a n h1 h2 h3 => load_ok (K3.out.frame0 hy).mem (by omega) (wz a n h1 h2 h3)
            obtain ⟨b0, hb0⟩ : ∃ x, x = f (4 * k) := ⟨_, rfl⟩
            obtain ⟨b1, hb1⟩ : ∃ x, x = f (4 * k + 1) := ⟨_, rfl⟩
            obtain ⟨b2, hb2⟩ : ∃ x, x = f (4 * k + 2) := ⟨_, rfl⟩
            obtain ⟨b3, hb3⟩ : ∃ x, x = f (4 * k + 3) := ⟨_, rfl⟩
            have y0 := BY.out (4 * k)
            have y1 := BY.out (4 * k + 1)
            have y2 := BY.out (4 * k + 2)
            have y3 := BY.out (4 * k + 3)
            rw [← hb0] at y0
            rw [← hb1] at y1
            rw [← hb2] at y2
            rw [← hb3] at y3
            obtain ⟨v, hv⟩ : ∃ v, v = b0 + b1 * 256 + b2 * 65536 + b3 * 16777216 := ⟨_, rfl⟩
            obtain ⟨lo, hlo⟩ : ∃ lo, lo = b0 + b1 * 256 := ⟨_, rfl⟩
            obtain ⟨hi, hhi⟩ : ∃ hi, hi = b2 + b3 * 256 := ⟨_, rfl⟩
            have W4 : wordOf (fun j => f (4 * k + j)) 4 = v := by
              simp only [wordOf, Nat.add_zero]
              rw [hv, hb0, hb1, hb2, hb3]; omega
            have W2 : wordOf (fun j => f (4 * k + j)) 2 = lo := by
              simp only [wordOf, Nat.add_zero]
              rw [hlo, hb0, hb1]; omega
            have W3 : wordOf (fun j => f (4 * k + 2 + j)) 2 = hi := by
              simp only [wordOf, Nat.add_zero, Nat.add_assoc, Nat.reduceAdd]
              rw [hhi, hb2, hb3]; omega
            have W1 : wordOf (fun j => f (4 * k + 3 + j)) 1 = b3 := by
              simp only [wordOf, Nat.add_zero]
              rw [hb3]; omega
            have L4 := Lib.hid (fun (wy : World) (hy : Chg (fun _ => False) w3 wy) => (by have := ld wy hy (4 * k) 4 (by omega) (by omega) (by omega); rw [W4] at this; exact this : Calls Try.prog 16 #[ptrV b, .int .u32 (4 * k : Nat), .int .i64 4] wy fun e w' => e = .returned (.tuple #[.int .u32 v, .int .i64 0]) ∧ Chg (fun _ => False) wy w'))
            have L2 := Lib.hid (fun (wy : World) (hy : Chg (fun _ => False) w3 wy) => (by have := ld wy hy (4 * k) 2 (by omega) (by omega) (by omega); rw [W2] at this; exact this : Calls Try.prog 16 #[ptrV b, .int .u32 (4 * k : Nat), .int .i64 2] wy fun e w' => e = .returned (.tuple #[.int .u32 lo, .int .i64 0]) ∧ Chg (fun _ => False) wy w'))
            have L3 := Lib.hid (fun (wy : World) (hy : Chg (fun _ => False) w3 wy) => (by have := ld wy hy (4 * k + 2) 2 (by omega) (by omega) (by omega); rw [W3] at this; exact this : Calls Try.prog 16 #[ptrV b, .int .u32 (4 * k + 2 : Nat), .int .i64 2] wy fun e w' => e = .returned (.tuple #[.int .u32 hi, .int .i64 0]) ∧ Chg (fun _ => False) wy w'))
            have L1 := Lib.hid (fun (wy : World) (hy : Chg (fun _ => False) w3 wy) => (by have := ld wy hy (4 * k + 3) 1 (by omega) (by omega) (by omega); rw [W1] at this; exact this : Calls Try.prog 16 #[ptrV b, .int .u32 (4 * k + 3 : Nat), .int .i64 1] wy fun e w' => e = .returned (.tuple #[.int .u32 b3, .int .i64 0]) ∧ Chg (fun _ => False) wy w'))
            have ff := Lib.hid (And.intro hb0 (And.intro hb1 (And.intro hb2 hb3)))
            have t1 : (v != lo + 65536 * hi) = false := by rw [bne_eq_false_iff_eq]; omega
            have t2 : (v % 256 != b0) = false := by rw [bne_eq_false_iff_eq]; omega
            have t3 : (v / 256 % 256 != b1) = false := by rw [bne_eq_false_iff_eq]; omega
            have t4 : (v / 65536 % 256 != b2) = false := by rw [bne_eq_false_iff_eq]; omega
            have v0 : 0 ≤ v ∧ v < 4294967296 := by omega
            have lo0 : 0 ≤ lo ∧ lo < 65536 := by omega
            have hi0 : 0 ≤ hi ∧ hi < 65536 := by omega
            obtain ⟨v0, v1⟩ := v0
            obtain ⟨lo0, lo1⟩ := lo0
            obtain ⟨hi0, hi1⟩ := hi0
            obtain ⟨y00, y01⟩ := y0
            obtain ⟨y10, y11⟩ := y1
            obtain ⟨y20, y21⟩ := y2
            obtain ⟨y30, y31⟩ := y3
            clear wz ld W1 W2 W3 W4 hb0 hb1 hb2 hb3 hv hlo hhi
            unfold ptrV at *
            go_wp2_with fail
            refine (L4.out _ HC.out).mono ?_
            rintro e w5 ⟨rfl, hc⟩
            have HC5 := Lib.hid (HC.out.trans hc fun _ _ => id)
            clear hc
            go_wp2_with fail
            refine (L2.out _ HC5.out).mono ?_
            rintro e w6 ⟨rfl, hc⟩
            have HC6 := Lib.hid (HC5.out.trans hc fun _ _ => id)
            clear hc
            go_wp2_with fail
            refine (L3.out _ HC6.out).mono ?_
            rintro e w7 ⟨rfl, hc⟩
            have HC7 := Lib.hid (HC6.out.trans hc fun _ _ => id)
            clear hc
            go_wp2_with fail
            refine (L1.out _ HC7.out).mono ?_
            rintro e w8 ⟨rfl, hc⟩
            have HC8 := Lib.hid (HC7.out.trans hc fun _ _ => id)
            clear hc
            have row8 := HC8.out.blk' K3.out.row id
            have z0 : w8.cell? ⟨G, 4 * k, none⟩ = some (.int .u8 b0) := by rw [cell_of_blk row8, List.getElem?_toArray, getElem_rowCells _ _ _ (by omega), ff.out.1]
            have z1 : w8.cell? ⟨G, 4 * k + 1, none⟩ = some (.int .u8 b1) := by rw [cell_of_blk row8, List.getElem?_toArray, getElem_rowCells _ _ _ (by omega), ff.out.2.1]
            have z2 : w8.cell? ⟨G, 4 * k + 2, none⟩ = some (.int .u8 b2) := by rw [cell_of_blk row8, List.getElem?_toArray, getElem_rowCells _ _ _ (by omega), ff.out.2.2.1]
            have z3 : w8.cell? ⟨G, 4 * k + 3, none⟩ = some (.int .u8 b3) := by rw [cell_of_blk row8, List.getElem?_toArray, getElem_rowCells _ _ _ (by omega), ff.out.2.2.2]
            clear row8
            obtain ⟨b4, hb4⟩ : ∃ x, x = b3 := ⟨_, rfl⟩
            have t5 : (b3 != b4) = false := by rw [hb4]; simp
            rw [← hb4] at z3
            have y40 : 0 ≤ b4 := by omega
            have y41 : b4 ≤ 255 := by omega
            clear hb4
            go_wp2
            go_roundw
            case rel => (repeat apply Exists.intro); exact ⟨⟨k + 1, by go_num, by omega, HC8.out⟩, rfl⟩
            case measure => simp [intOf]; omega
          · have hk2 : k = 2048 := by omega
            subst hk2
            go_wp2
            go_ret
            exact ⟨rfl, (K3.out.chg.trans HC.out fun _ _ => id).below (Nat.le_refl _) fun _ _ => id⟩
end Go.Proofs.Ytenbkdmaiooldaa
