/- The contract of the law's own 'since'. No condition. -/
import Derived.Test.YtoglgkplddlemaaTlbH
import Derived.Test.YtoglgkplddlemaaTlbLong
import Derived.Deep.DeepCutAuto
import Derived.Deep.CutBlock
import Derived.Deep.CutRange
namespace Go.Proofs.Ytoglgkplddlemaa
open Go.RowKit Go.Cl
open Go.Maps (Keyed)
open Go.ChangeMaps (setBlock)
set_option linter.unusedVariables false
set_option linter.unusedSimpArgs false
attribute [local go_sem] lt_add_one' blk_alloc_past blk_alloc_at blk_drew blk_setCell_ne blk_setBlock_ne blk_setBlock_eq cell_setBlock_ne frozen_setBlock_ne size_setBlock

def stepOf (u : UseT) : Tag × Int := ((tagC u.1, tagP u.2.1), u.2.2)
def hist (us : List UseT) : List (Tag × Int) := (us.map stepOf).reverse

theorem hist_take {us : List UseT} {g : Nat} {u : UseT} (h : us[g]? = some u) : hist (us.take (g + 1)) = stepOf u :: hist (us.take g) := by
  obtain ⟨hl, hx⟩ := List.getElem?_eq_some_iff.1 h
  unfold hist
  rw [List.take_succ_eq_append_getElem hl, hx, List.map_append, List.reverse_append]
  rfl

/-- What 'since' has found when so many steps are still to be looked at. -/
structure SinceInv (w : World) (us : List UseT) (t : Tag) (g : Nat) (pre os : List Tag) (s6 : Value) (wr : World) : Prop where
  row : wr.ownsRow (w.heap.size + 1) 32 2 s6 os.length (os.flatMap encT)
  acc : os = dd pre
  seg : seg (hist us) t = (Go.Proofs.Ytoglgkplddlemaa.seg (hist (us.take g)) t).map (pre ++ ·)
  few : os.length + g ≤ us.length

theorem take_mem {os : List Tag} {k : Nat} {x y : Tag} (h : os[k]? = some y) : decide (x ∈ os.take (k + 1)) = (decide (x ∈ os.take k) || decide (x = y)) := by
  obtain ⟨hl, hx⟩ := List.getElem?_eq_some_iff.1 h
  rw [List.take_succ_eq_append_getElem hl, hx]
  simp [List.mem_append]

theorem dd_snoc (l : List Tag) (x : Tag) : dd (l ++ [x]) = addNew (dd l) x := by simp [dd, List.foldl_append]

theorem fin_none {us : List UseT} {t : Tag} {g : Nat} {pre os : List Tag} {s6 : Value} {w wr : World} (h : SinceInv w us t g pre os s6 wr) (hs : seg (hist (us.take g)) t = none) : usedB (hist us) t = false ∧ othersN (hist us) t = 0 := by
  have := h.seg
  rw [hs] at this
  simp [usedB, othersN, this]

theorem fin_some {us : List UseT} {t : Tag} {g : Nat} {pre os : List Tag} {s6 : Value} {w wr : World} (h : SinceInv w us t g pre os s6 wr) (hs : seg (hist (us.take g)) t = some []) : usedB (hist us) t = true ∧ othersN (hist us) t = os.length := by
  have := h.seg
  rw [hs] at this
  simp [usedB, othersN, this, dcount, h.acc]

set_option maxHeartbeats 1000000 in
set_option maxRecDepth 100000 in
theorem since_ok (oa : Option Addr) (cap : Nat) (us : List UseT) (tc tp : Int) (w : World) (hU : USl w oa cap us) (hus : us.length ≤ 1000) :
    Calls Try.prog 19 #[.slice oa us.length cap, .agg #[.int .i64 tc, .int .u32 tp]] w fun e w' => e = .returned (.tuple #[.bool (usedB (hist us) (tc, tp)), .int .i64 (othersN (hist us) (tc, tp))]) ∧ Chg (fun _ => False) w w' := by
  have hcm := hU.2.1
  have hlc := hU.1
  unfold maxLen at hcm
  obtain ⟨i0, hi, hz0, hz1, hz2⟩ := info_parts info32
  go_enter Try.func19, Try.ntmps19
  go_wp2
  obtain ⟨B0, hB0⟩ : ∃ B0, B0 = w.heap.size := ⟨_, rfl⟩
  obtain ⟨w0, hw0⟩ : ∃ w0 : World, w0 = w.alloc (.cells #[.int .i64 tc, .int .u32 tp] 32) := ⟨_, rfl⟩
  have k0 : blk w0 B0 = some (.cells #[.int .i64 tc, .int .u32 tp] 32 (0, 0)) := by rw [hw0, hB0]; simp (disch := (first | omega | (simp only [World.size_alloc, World.size_drew, World.size_setCell, size_setBlock] <;> omega) | fail)) only [blk_drew, blk_alloc_past, blk_alloc_at, blk_setCell_ne, blk_setCell_eq, blk_setBlock_ne, blk_setBlock_eq]
  have c0 : Chg (fun _ => False) w w0 := by rw [hw0]; repeat (first | exact Chg.refl _ _ | apply Chg.drew | (refine Chg.setCell ?_ (by simp) _) | (refine Chg.alloc ?_ _) | (refine Chg.setBlock ?_ (by simp) _))
  rw [← hw0, ← hB0]
  have z01 : w0.heap.size = w.heap.size + 1 := by rw [hw0]; simp
  have W01 := Lib.hid z01
  clear z01
  have K0 := Lib.hid k0
  have C0 := Lib.hid c0
  have HB0 := Lib.hid hB0
  have HU := Lib.hid hU
  clear hw0 k0 c0 hB0 hU hlc
  go_loopg [6, 7] us.length (fun g s6 s7 wr => ∃ (i : Int) (pre os : List Tag), i = (g : Int) - 1 ∧ g ≤ us.length ∧ s7 = .int .i64 i ∧ SinceInv w us (tc, tp) g pre os s6 wr ∧ Chg (fun _ => False) w0 wr)
  case atStart =>
    refine ⟨_, [], [], rfl, Nat.le_refl _, rfl, ⟨⟨rfl, .inl ⟨rfl, rfl⟩⟩, rfl, ?_, by simp⟩, Chg.refl _ _⟩
    rw [List.take_length]
    simp
  case round =>
    obtain ⟨i, pre, os, hig, hgu, rfl, hI, cx⟩ := hrel
    have HI := Lib.hid hI
    have CX := Lib.hid cx
    have kx := cx.blk' K0.out (by simp)
    have x0 := cell_of_blk kx 0
    have x1 := cell_of_blk kx 1
    have xl := blk_lt kx
    simp only [List.getElem?_toArray, List.getElem?_cons_zero, List.getElem?_cons_succ] at x0 x1
    have KX := Lib.hid kx
    clear hI cx kx
    cases gk with
    | zero =>
      have hi0 : i = -1 := by omega
      subst hi0
      clear hig
      have hf := fin_none HI.out (by simp [hist, seg])
      have HF := Lib.hid hf
      clear hf
      go_wp2
      go_ret2
      exact ⟨by rw [HF.out.1, HF.out.2]; rfl, C0.out.step CX.out (fun i _ h => h) (fun i _ h => h)⟩
    | succ g =>
      obtain rfl : i = (g : Int) := by omega
      obtain ⟨u, hug⟩ : ∃ u, us[g]? = some u := ⟨_, List.getElem?_eq_getElem (by omega)⟩
      obtain ⟨ub, uo, rfl, y0, y1, y2, u0, u1, u2⟩ := HU.out.2.2 g u hug
      have ul := World.block_lt_of_cell? _ _ y0
      have cw : Chg (fun _ => False) w wr := C0.out.step CX.out (fun i _ h => h) (fun i _ h => h)
      have cel : ∀ o v, w.cell? ⟨ub, o, none⟩ = some v → wr.cell? ⟨ub, o, none⟩ = some v := fun o v h => (World.cell?_of_block (w := w) (a := ⟨ub, o, none⟩) (cw.block ub ul (by simp))).trans h
      have z0 := cel _ _ y0
      have z1 := cel _ _ y1
      have z2 := cel _ _ y2
      have zl := World.block_lt_of_cell? _ _ z0
      have HT := Lib.hid (hist_take hug)
      clear y0 y1 y2 cel cw ul hig hug
      go_wp2_with fail
      refine (tag_any u.1 u.2.1 u.2.2 u0 u1 _).mono ?_
      rintro e w2 ⟨rfl, g2⟩
      have st : stepOf u = ((tagC u.1, tagP u.2.1), u.2.2) := rfl
      have ST := Lib.hid st
      generalize htc : tagC u.1 = xc
      generalize htp : tagP u.2.1 = xp
      rw [htc, htp] at ST
      generalize u.2.2 = f at *
      have zz2 : w2.cell? ⟨ub, uo + g * 3 + 2, none⟩ = some (.int .i64 f) := (World.cell?_of_block (w := wr) (a := ⟨ub, _, none⟩) (g2.block ub zl (by simp))).trans z2
      have zzl := World.block_lt_of_cell? _ _ zz2
      have k2 := g2.blk' KX.out (by simp)
      have v0 := cell_of_blk k2 0
      have v1 := cell_of_blk k2 1
      have vl := blk_lt k2
      simp only [List.getElem?_toArray, List.getElem?_cons_zero, List.getElem?_cons_succ] at v0 v1
      obtain ⟨_, _, _, _, _, _, _, _, _, _, _, _, _, _, _, _, _, _⟩ := lts zzl
      obtain ⟨_, _, _, _, _, _, _, _, _, _, _, _, _, _, _, _, _, _⟩ := lts vl
      have K2 := Lib.hid k2
      have G2 := Lib.hid g2
      clear z0 z1 z2 k2 g2 x0 x1 st htc htp u0 u1 u2
      have CW := Lib.hid ((C0.out.step CX.out (fun i _ h => h) (fun i _ h => h)).step G2.out (S := fun _ => False) (fun i _ h => h) (fun i _ h => h))
      have hT : hist (us.take (g + 1)) = ((xc, xp), f) :: hist (us.take g) := by rw [HT.out, ST.out]
      have HTT := Lib.hid hT
      clear hT
      by_cases f1 : f = 1
      · subst f1
        have hf := fin_none HI.out (by rw [HTT.out]; simp [seg])
        have HF := Lib.hid hf
        clear hf
        go_wp2
        go_ret2
        exact ⟨by rw [HF.out.1, HF.out.2]; rfl, CW.out.alloc _⟩
      by_cases f2 : f = 2
      · subst f2
        clear f1
        by_cases hc : xc = tc
        · have hf := fin_none HI.out (by rw [HTT.out, hc]; simp [seg])
          have HF := Lib.hid hf
          clear hf
          go_wp2
          go_ret2
          exact ⟨by rw [HF.out.1, HF.out.2]; rfl, CW.out.alloc _⟩
        · have hsame : seg (hist (us.take (g + 1))) (tc, tp) = seg (hist (us.take g)) (tc, tp) := by rw [HTT.out]; simp [seg, hc]
          have HS := Lib.hid hsame
          clear hsame
          go_wp2
          go_roundg g
          case measure => omega
          case rel =>
            have h := HI.out
            exact ⟨(g : Int) - 1, pre, os, rfl, by omega, rfl, ⟨row_frame h.row (G2.out.alloc _) (by simp), h.acc, by rw [h.seg, HS.out], by have := h.few; omega⟩, (CX.out.step (S := fun _ => False) G2.out (fun i _ h => h) (fun i _ h => h)).alloc _⟩
      by_cases f3 : f = 3
      · subst f3
        clear f1 f2
        by_cases hc : xc = tc
        · by_cases hp : xp = tp
          · have hf := fin_none HI.out (by rw [HTT.out, hc, hp]; simp [seg])
            have HF := Lib.hid hf
            clear hf
            go_wp2
            go_ret2
            exact ⟨by rw [HF.out.1, HF.out.2]; rfl, CW.out.alloc _⟩
          · have hsame : seg (hist (us.take (g + 1))) (tc, tp) = seg (hist (us.take g)) (tc, tp) := by rw [HTT.out]; simp [seg, hc, hp]
            have HS := Lib.hid hsame
            clear hsame
            go_wp2
            go_roundg g
            case measure => omega
            case rel =>
              have h := HI.out
              exact ⟨(g : Int) - 1, pre, os, rfl, by omega, rfl, ⟨row_frame h.row (G2.out.alloc _) (by simp), h.acc, by rw [h.seg, HS.out], by have := h.few; omega⟩, (CX.out.step (S := fun _ => False) G2.out (fun i _ h => h) (fun i _ h => h)).alloc _⟩
        · have hsame : seg (hist (us.take (g + 1))) (tc, tp) = seg (hist (us.take g)) (tc, tp) := by rw [HTT.out]; simp [seg, hc]
          have HS := Lib.hid hsame
          clear hsame
          go_wp2
          go_roundg g
          case measure => omega
          case rel =>
            have h := HI.out
            exact ⟨(g : Int) - 1, pre, os, rfl, by omega, rfl, ⟨row_frame h.row (G2.out.alloc _) (by simp), h.acc, by rw [h.seg, HS.out], by have := h.few; omega⟩, (CX.out.step (S := fun _ => False) G2.out (fun i _ h => h) (fun i _ h => h)).alloc _⟩
      have hfu : f ≠ 1 ∧ f ≠ 2 ∧ f ≠ 3 := ⟨f1, f2, f3⟩
      have FU := Lib.hid hfu
      obtain ⟨oT, capT, hs6⟩ := row_len HI.out.row
      have HS6 := Lib.hid hs6
      rw [hs6]
      clear hfu hs6
      by_cases hcp : xc = tc ∧ xp = tp
      · obtain ⟨hc, hp⟩ := hcp
        have hf := fin_some HI.out (by rw [HTT.out, hc, hp, seg_use FU.out]; exact if_pos rfl)
        have HF := Lib.hid hf
        clear hf
        go_wp2
        go_ret2
        exact ⟨by rw [HF.out.1, HF.out.2]; rfl, CW.out.alloc _⟩
      have hne : ¬ (xc, xp) = (tc, tp) := fun e => hcp (by simpa using e)
      have hseg : seg (hist (us.take (g + 1))) (tc, tp) = (seg (hist (us.take g)) (tc, tp)).map ((xc, xp) :: ·) := by rw [HTT.out, seg_use FU.out, if_neg hne]
      have HSEG := Lib.hid hseg
      clear hseg hne
      have two : ((xc = tc) = True ∧ (xp = tp) = False) ∨ ((xc = tc) = False) := by
        by_cases hc : xc = tc
        · exact .inl ⟨eq_true hc, eq_false fun hp => hcp ⟨hc, hp⟩⟩
        · exact .inr (eq_false hc)
      have HNE := Lib.hid hcp
      clear hcp
      rcases two with ⟨t1, t2⟩ | t1
      all_goals
        go_upto_block 3 with (fail)
        obtain ⟨A, hA⟩ : ∃ A, A = w2.heap.size := ⟨_, rfl⟩
        obtain ⟨wA, hwA⟩ : ∃ wA : World, wA = w2.alloc (.cells #[.int .i64 xc, .int .u32 xp] 32) := ⟨_, rfl⟩
        have kA : blk wA A = some (.cells #[.int .i64 xc, .int .u32 xp] 32 (0, 0)) := by rw [hwA, hA]; simp (disch := (first | omega | (simp only [World.size_alloc, World.size_drew, World.size_setCell, size_setBlock] <;> omega) | fail)) only [blk_drew, blk_alloc_past, blk_alloc_at, blk_setCell_ne, blk_setCell_eq, blk_setBlock_ne, blk_setBlock_eq]
        have cA : Chg (fun _ => False) wr wA := by rw [hwA]; exact G2.out.alloc _
        rw [← hwA, ← hA]
        have KA := Lib.hid kA
        have CA := Lib.hid cA
        have RA := Lib.hid (row_frame HI.out.row cA (by simp))
        have os6 := HI.out.few
        clear hwA hA kA cA t1
        go_cut [9] from 47 to 61 (fun s9 wc => s9 = .bool (decide ((xc, xp) ∈ os)) ∧ Chg (fun _ => False) wA wc)
        case first =>
          go_wp2
          go_loopg [9, 10] os.length (fun g2 s9 s10 wx => ∃ k : Nat, k + g2 = os.length ∧ s9 = .bool (decide ((xc, xp) ∈ os.take k)) ∧ s10 = .int .i64 k ∧ Chg (fun _ => False) wA wx)
          case atStart => exact ⟨0, by omega, by simp, rfl, Chg.refl _ _⟩
          case round =>
            obtain ⟨k, hkg, rfl, rfl, cx⟩ := hrel
            have KG := Lib.hid hkg
            have CX2 := Lib.hid cx
            have kx := cx.blk' KA.out (by simp)
            have x0 := cell_of_blk kx 0
            have x1 := cell_of_blk kx 1
            simp only [List.getElem?_toArray, List.getElem?_cons_zero, List.getElem?_cons_succ] at x0 x1
            have RX := row_frame RA.out cx (by simp)
            clear kx cx
            cases gk with
            | zero =>
              have hk : ¬ k < os.length := by omega
              have he : os.take k = os := List.take_of_length_le (by omega)
              rw [he]
              clear hkg he RX x0 x1
              go_wp2
              go_meet
              case rel => exact ⟨rfl, CX2.out⟩
            | succ g2 =>
              have hk : k < os.length := by omega
              obtain ⟨y, hyk⟩ : ∃ y, os[k]? = some y := ⟨_, List.getElem?_eq_getElem hk⟩
              obtain ⟨g0, cap0, hv0, hc0, hm0, y0, y1⟩ := tag_cell RX hyk
              have e0 := HS6.out.symm.trans hv0
              simp only [Value.slice.injEq, true_and] at e0
              obtain ⟨rfl, rfl⟩ := e0
              unfold maxLen at hm0
              have TK := Lib.hid (take_mem (x := (xc, xp)) hyk)
              clear hkg hyk hv0 RX
              by_cases hin : (xc, xp) ∈ os.take k
              · have hd : decide ((xc, xp) ∈ os.take k) = true := decide_eq_true hin
                have HD := Lib.hid hin
                rw [hd]
                clear hin hd
                go_wp2
                go_region
                go_wp2
                go_roundg g2
                case measure => omega
                case rel => exact ⟨k + 1, by have := KG.out; omega, by rw [TK.out]; simp [HD.out], by go_num, CX2.out.drew⟩
              · have hd : decide ((xc, xp) ∈ os.take k) = false := decide_eq_false hin
                have HD := Lib.hid hin
                rw [hd]
                clear hin hd
                have three : ((y.1 = xc) = True ∧ (y.2 = xp) = True) ∨ ((y.1 = xc) = True ∧ (y.2 = xp) = False) ∨ ((y.1 = xc) = False) := by
                  by_cases hc : y.1 = xc
                  · by_cases hp : y.2 = xp
                    · exact .inl ⟨eq_true hc, eq_true hp⟩
                    · exact .inr (.inl ⟨eq_true hc, eq_false hp⟩)
                  · exact .inr (.inr (eq_false hc))
                have T3 := Lib.hid three
                rcases three with ⟨s1, s2⟩ | ⟨s1, s2⟩ | s1
                · have hy : y = (xc, xp) := Prod.ext (of_eq_true s1) (of_eq_true s2)
                  have HY := Lib.hid hy
                  clear hy
                  go_wp2
                  go_region
                  go_wp2
                  go_roundg g2
                  case measure => omega
                  case rel => exact ⟨k + 1, by have := KG.out; omega, by rw [TK.out]; simp [HY.out], by go_num, CX2.out.drew⟩
                · have hy : ¬ (xc, xp) = y := fun e => of_eq_false s2 (by rw [← e])
                  have HY := Lib.hid hy
                  clear hy
                  go_wp2
                  go_region
                  go_wp2
                  go_roundg g2
                  case measure => omega
                  case rel => exact ⟨k + 1, by have := KG.out; omega, by rw [TK.out]; simp [HY.out, HD.out], by go_num, CX2.out.drew⟩
                · have hy : ¬ (xc, xp) = y := fun e => of_eq_false s1 (by rw [← e])
                  have HY := Lib.hid hy
                  clear hy
                  go_wp2
                  go_region
                  go_wp2
                  go_roundg g2
                  case measure => omega
                  case rel => exact ⟨k + 1, by have := KG.out; omega, by rw [TK.out]; simp [HY.out, HD.out], by go_num, CX2.out.drew⟩
        case rest =>
          obtain ⟨rfl, cx⟩ := hcut
          have CXC := Lib.hid cx
          have kx := cx.blk' KA.out (by simp)
          have x0 := cell_of_blk kx 0
          have x1 := cell_of_blk kx 1
          have xl := blk_lt kx
          simp only [List.getElem?_toArray, List.getElem?_cons_zero, List.getElem?_cons_succ] at x0 x1
          have RX := row_frame RA.out cx (by simp)
          have hsg : seg (hist us) (tc, tp) = (seg (hist (us.take g)) (tc, tp)).map ((pre ++ [(xc, xp)]) ++ ·) := by
            rw [HI.out.seg, HSEG.out, Option.map_map]
            congr 1
            funext l
            simp
          have hacc : addNew os (xc, xp) = dd (pre ++ [(xc, xp)]) := by rw [dd_snoc, ← HI.out.acc]
          have HSG := Lib.hid hsg
          have HAC := Lib.hid hacc
          have szw : w.heap.size + 1 ≤ wc.heap.size := by have := W01.out; have := CA.out.size; have := cx.size; have := CX.out.size; omega
          have CF := Lib.hid ((CX.out.step (S := fun _ => False) CA.out (fun i _ h => h) (fun i _ h => h)).step (S := fun _ => False) cx (fun i _ h => h) (fun i _ h => h))
          clear kx cx hsg hacc
          by_cases hin : (xc, xp) ∈ os
          · have hd : decide ((xc, xp) ∈ os) = true := decide_eq_true hin
            rw [hd]
            have HD := Lib.hid hin
            have RXH := Lib.hid RX
            clear hin hd RX
            go_wp2
            go_roundg g
            case measure => omega
            case rel =>
              have hadd : addNew os (xc, xp) = os := if_pos HD.out
              exact ⟨(g : Int) - 1, pre ++ [(xc, xp)], os, rfl, by omega, rfl, ⟨by have := RXH.out; rw [HS6.out] at this; exact this, hadd ▸ HAC.out, HSG.out, by omega⟩, CF.out⟩
          · have hd : decide ((xc, xp) ∈ os) = false := decide_eq_false hin
            rw [hd]
            have HD := Lib.hid hin
            have RB := Lib.hid (fun q hq => (row_block RX (g := q) hq).1)
            clear hin hd
            rw [HS6.out] at RX
            go_wp2_with (at_builtin; refine wpList_append_own _ rfl _ _ 29 rfl (w.heap.size + 1) 32 i0 (.agg #[.int .i64 0, .int .u32 0]) 2 16 Try.underlying29 hi hz0 hz1 hz2 rfl (by decide) _ _ _ rfl (RX.alloc _) ⟨wc.heap.size, 0, none⟩ 1 1 [.int .i64 xc, .int .u32 xp] rfl rfl ?_ ?_ ?_ ?_ ?_ ?_)
            · exact cell_two_new _ _ _ _
            · intro v hv
              simp at hv
              rcases hv with rfl | rfl <;> rfl
            · unfold maxLen; omega
            · omega
            · simp
              omega
            · intro v' w' hown hgrow hnn
              have HO := Lib.hid hown
              have HGr := Lib.hid hgrow
              clear hown hgrow hnn RX
              go_wp2
              go_roundg g
              case measure => omega
              case rel =>
                have hadd : addNew os (xc, xp) = os ++ [(xc, xp)] := if_neg HD.out
                refine ⟨(g : Int) - 1, pre ++ [(xc, xp)], os ++ [(xc, xp)], rfl, by omega, rfl, ⟨?_, hadd ▸ HAC.out, HSG.out, by simp; omega⟩, ?_⟩
                · rw [List.flatMap_append, List.length_append]
                  exact HO.out
                · refine Chg.trans (b := wc.alloc _) (CF.out.alloc _) (Chg.of_grown HGr.out) (fun i hi h => ?_)
                  have h1 := RB.out i (by rw [HS6.out]; exact h.symm)
                  have := W01.out
                  omega
end Go.Proofs.Ytoglgkplddlemaa
