/- TLBReuse: the rule of reuse, with flushes and drops: for every number of slots and every list of uses. No condition. -/
import Derived.Test.YtoglgkplddlemaaTlbI
import Derived.StillTailTactics
import Derived.Deep.RegionWith
import Derived.Deep.DeepCutAuto
import Derived.Deep.CutBlock
import Derived.Deep.CutRange
namespace Go.Proofs.Ytoglgkplddlemaa
open Go.RowKit Go.Cl
open Go.Maps (Keyed)
open Go.ChangeMaps (setBlock)
set_option linter.unusedVariables false
set_option linter.unusedSimpArgs false
attribute [local go_sem] lt_add_one' blk_alloc_past blk_alloc_at blk_drew blk_setCell_ne blk_setBlock_ne blk_setBlock_eq cell_setBlock_ne frozen_setBlock_ne size_setBlock

theorem lookV_form {h : List (Tag × Int)} {n : Nat} {L : List En} (hR : Reuse h n L) (c p : Int) : ∃ mf mr isb, lookV L c p = .tuple #[.agg #[.int .u32 mf, .int .u8 mr], .bool isb] ∧ isb = (hitE L c p).isSome ∧ (isb = true → mf = p + 1000 * c) := by
  unfold lookV
  rcases hit_is (L := L) (c := c) (p := p) with ⟨e, he⟩ | he
  · obtain ⟨h1, h2, h3⟩ := hit_some he
    have := hR.frame e h1
    exact ⟨e.f, e.r, true, by rw [he], by rw [he]; rfl, fun _ => by rw [this, h2, h3]⟩
  · exact ⟨0, 0, false, by rw [he], by rw [he]; rfl, fun h => by cases h⟩

structure ReuseInv (w : World) (us : List UseT) (b m n k : Nat) (pure : Bool) (wr : World) : Prop where
  tlb : ∃ L now, now ≤ 2 * (k : Int) ∧ TlbIs wr b m (1 + (n : Int)) now L ∧ Reuse (hist (us.take k)) (n + 1) L ∧ (pure = true → ∃ T, Held L T (n + 1) ∧ Pure0 (hist (us.take k)) T)
  blw : Below w.heap.size w wr
  lo : w.heap.size ≤ b ∧ w.heap.size ≤ m

set_option maxHeartbeats 2000000 in
set_option maxRecDepth 100000 in
theorem reuse_core (sl : Int) (hs : I64 sl) (v : Value) (us : List UseT) (w : World) (hu : UsesAre w v us) :
    Calls Try.prog 5 #[.int .i64 sl, v] w fun e w' => e = .returned (.bool true) ∧ Below w.heap.size w w' := by
  have hp := pick_any sl 64 hs (by omega) (by omega)
  have bp := pickI_bd sl 64 (by omega)
  obtain ⟨n, hn⟩ : ∃ n : Nat, pickI sl 64 = n := ⟨(pickI sl 64).toNat, by omega⟩
  rw [hn] at hp bp
  obtain ⟨bp, bp'⟩ := bp
  clear hn
  obtain ⟨oa, cap, rfl, hU⟩ := uSl_of hu
  clear hu
  have hcm := hU.2.1
  have hlc := hU.1
  unfold maxLen at hcm
  go_enter Try.func5, Try.ntmps5
  go_wp2_with fail
  refine (works_ok _).mono ?_
  rintro e wa ⟨rfl, ga⟩
  have GA := Lib.hid ga
  clear ga
  go_wp2_with fail
  refine (hp _).mono ?_
  rintro e wb ⟨rfl, rfl⟩
  go_wp2_with fail
  refine (new_ok (1 + (n : Int)) (by omega) (by omega) _).mono ?_
  rintro e wn ⟨b, m, rfl, h1, hb, hm, g1⟩
  have BB := Lib.hid (And.intro hb hm)
  have H1 := Lib.hid h1
  have G1 := Lib.hid g1
  have HU := Lib.hid hU
  clear hb hm h1 g1 hU
  go_wp2
  go_loopg [9, 10] us.length (fun g s9 s10 wr => ∃ (k : Nat) (pure : Bool), k + g = us.length ∧ k ≤ 300 ∧ s9 = .bool pure ∧ s10 = .int .i64 k ∧ ReuseInv w us b m n k pure wr)
  case atStart =>
    refine ⟨0, true, by omega, by omega, rfl, rfl, ⟨⟨[], 0, by omega, H1.out, reuse_nil _, fun _ => ⟨[], ⟨List.nodup_nil, by simp⟩, pure_nil⟩⟩, ?_, ?_⟩⟩
    · exact (GA.out.below (Nat.le_refl _) (by simp)).trans (G1.out.below GA.out.size (by simp))
    · have := BB.out
      have := GA.out.size
      omega
  case round =>
    obtain ⟨k, pure, hkg, h300, rfl, rfl, hI⟩ := hrel
    have KG := Lib.hid hkg
    have HI := Lib.hid hI
    clear hI
    by_cases hk : k < us.length ∧ k < 300
    · obtain ⟨hk1, hk2⟩ := hk
      obtain ⟨u, huk⟩ : ∃ u, us[k]? = some u := ⟨_, List.getElem?_eq_getElem hk1⟩
      obtain ⟨ub, uo, rfl, y0, y1, y2, u0, u1, u2⟩ := (uSl_frame HU.out HI.out.blw).2.2 k u huk
      have ul := World.block_lt_of_cell? _ _ y0
      have HT := Lib.hid (hist_take huk)
      have hk2' : (k : Int) < 300 := by omega
      clear hkg huk
      go_wp2_with fail
      refine (tag_any u.1 u.2.1 u.2.2 u0 u1 _).mono ?_
      rintro e w2 ⟨rfl, g2⟩
      have st : stepOf u = ((tagC u.1, tagP u.2.1), u.2.2) := rfl
      have tOk := tagOk_of u.1 u.2.1
      have tb1 : 1 ≤ tagC u.1 ∧ tagC u.1 ≤ 4 := by have := pickI_bd u.1 4 (by omega); unfold tagC; omega
      have tb2 : 0 ≤ tagP u.2.1 ∧ tagP u.2.1 ≤ 199 := by have := pickI_bd u.2.1 200 (by omega); unfold tagP; omega
      obtain ⟨tb1, tb1'⟩ := tb1
      obtain ⟨tb2, tb2'⟩ := tb2
      generalize tagC u.1 = tc at *
      generalize tagP u.2.1 = tp at *
      have hT : hist (us.take (k + 1)) = ((tc, tp), u.2.2) :: hist (us.take k) := by rw [HT.out, st]
      generalize u.2.2 = f at *
      obtain ⟨A, hA⟩ : ∃ A, A = wr.heap.size := ⟨_, rfl⟩
      have kA := g2.blk' (b := A) (o := .cells #[.int .i64 u.1, .int .i64 u.2.1, .int .i64 f] 34 (0, 0)) (by rw [hA]; simp (disch := (first | omega | (simp only [World.size_alloc, World.size_drew, World.size_setCell, size_setBlock] <;> omega) | fail)) only [blk_drew, blk_alloc_past, blk_alloc_at, blk_setCell_ne, blk_setCell_eq, blk_setBlock_ne, blk_setBlock_eq]) (by simp)
      have c2 : Chg (fun _ => False) wr w2 := Chg.step (b := wr.alloc _) ((Chg.refl _ _).alloc _) g2 (fun i _ h => h) (fun i _ h => h)
      have v0 := cell_of_blk kA 0
      have v1 := cell_of_blk kA 1
      have v2 := cell_of_blk kA 2
      have vl := blk_lt kA
      simp only [List.getElem?_toArray, List.getElem?_cons_zero, List.getElem?_cons_succ] at v0 v1 v2
      obtain ⟨_, _, _, _, _, _, _, _, _, _, _, _, _, _, _, _, _, _⟩ := lts vl
      rw [← hA]
      have TOK := Lib.hid tOk
      have HTT := Lib.hid hT
      have C2 := Lib.hid c2
      clear g2 tOk hT c2 st hA kA y0 y1 y2 u0 u1 u2 ul
      obtain ⟨L, now, hnow, hTL, hRe, hPu⟩ := HI.out.tlb
      have HTL := Lib.hid (hTL.frame C2.out (by simp) (by simp))
      have HRE := Lib.hid hRe
      have HPU := Lib.hid hPu
      have BL := Lib.hid HI.out.lo
      have BW := Lib.hid (HI.out.blw.trans (C2.out.below HI.out.blw.size (by simp)))
      clear hTL hRe hPu
      by_cases f1 : f = 1
      · subst f1
        go_wp2_with fail
        refine (flush_ok (HTL.out.frame (S := fun _ => False) (by repeat (first | exact Chg.refl _ _ | apply Chg.drew | (refine Chg.setCell ?_ (by simp) _) | (refine Chg.alloc ?_ _) | (refine Chg.setBlock ?_ (by simp) _))) (by simp) (by simp))).mono ?_
        rintro e w3 ⟨rfl, hq, cq⟩
        have HQ := Lib.hid hq
        have CQ := Lib.hid cq
        clear hq cq
        go_wp2
        go_roundg (gk - 1)
        case measure => have := KG.out; omega
        case rel =>
          have kg := KG.out
          have bw := BW.out
          have szz := bw.size
          have blo := BL.out
          exact ⟨k + 1, false, by omega, by omega, rfl, by go_num, ⟨⟨[], now, by omega, HQ.out, by rw [HTT.out]; exact reuse_flush _ _ _, (fun h => by cases h)⟩, (bw.alloc szz _).trans (CQ.out.below (by simp; omega) (fun i hi h => by omega)), blo⟩⟩
      by_cases f2 : f = 2
      · subst f2
        go_wp2_with fail
        refine (flushCell_ok (xs := [tc]) (HTL.out.frame (S := fun _ => False) (by repeat (first | exact Chg.refl _ _ | apply Chg.drew | (refine Chg.setCell ?_ (by simp) _) | (refine Chg.alloc ?_ _) | (refine Chg.setBlock ?_ (by simp) _))) (by simp) (by simp)) ?_ ?_ (by omega)).mono ?_
        · refine ⟨by simp, by simp [maxLen], fun i x hx => ?_⟩
          match i, hx with
          | 0, hx =>
            simp at hx
            subst hx
            refine ⟨_, 0, rfl, cell_of_blk (c := #[.int .i64 tc]) (t := 3) (fr := (0, 0)) (by simp (disch := (first | omega | (simp only [World.size_alloc, World.size_drew, World.size_setCell, size_setBlock] <;> omega) | fail)) only [blk_drew, blk_alloc_past, blk_alloc_at, blk_setCell_ne, blk_setCell_eq, blk_setBlock_ne, blk_setBlock_eq]) 0, ?_⟩
            have := TOK.out
            unfold TagOk at this
            unfold I64
            omega
          | i + 1, hx => simp at hx
        · intro b' o e
          have h1 := HTL.out.facts
          simp only [Option.some.injEq, Addr.mk.injEq] at e
          obtain ⟨e, -⟩ := e
          subst e
          simp
          omega
        rintro e w3 ⟨rfl, hq, cq⟩
        have HQ := Lib.hid hq
        have CQ := Lib.hid cq
        clear hq cq
        go_wp2
        go_roundg (gk - 1)
        case measure => have := KG.out; omega
        case rel =>
          have kg := KG.out
          have bw := BW.out
          have szz := bw.size
          have blo := BL.out
          exact ⟨k + 1, false, by omega, by omega, rfl, by go_num, ⟨⟨_, now, by omega, HQ.out, by rw [HTT.out]; exact reuse_cell HRE.out (tc, tp), (fun h => by cases h)⟩, ((bw.alloc szz _).alloc (by simp; omega) _).trans (CQ.out.below (by simp; omega) (fun i hi h => by omega)), blo⟩⟩
      by_cases f3 : f = 3
      · subst f3
        go_wp2_with fail
        refine (drop_ok (HTL.out.frame (S := fun _ => False) (by repeat (first | exact Chg.refl _ _ | apply Chg.drew | (refine Chg.setCell ?_ (by simp) _) | (refine Chg.alloc ?_ _) | (refine Chg.setBlock ?_ (by simp) _))) (by simp) (by simp)) TOK.out).mono ?_
        rintro e w3 ⟨rfl, hq, cq⟩
        have HQ := Lib.hid hq
        have CQ := Lib.hid cq
        clear hq cq
        go_wp2
        go_roundg (gk - 1)
        case measure => have := KG.out; omega
        case rel =>
          have kg := KG.out
          have bw := BW.out
          have szz := bw.size
          have blo := BL.out
          exact ⟨k + 1, false, by omega, by omega, rfl, by go_num, ⟨⟨_, now, by omega, HQ.out, by rw [HTT.out]; exact reuse_drop HRE.out (tc, tp), (fun h => by cases h)⟩, (bw.alloc szz _).trans (CQ.out.below (by simp; omega) (fun i hi h => by omega)), blo⟩⟩
      have FU : Hid (f ≠ 1 ∧ f ≠ 2 ∧ f ≠ 3) := ⟨f1, f2, f3⟩
      have hkc : k ≤ cap := by omega
      have hlen : (us.take k).length = k := by rw [List.length_take]; omega
      have SI := fun wx : World => fun c : Chg (fun _ => False) wr wx => since_ok (some ⟨ub, uo, none⟩) cap (us.take k) tc tp wx (uSl_frame (uSl_take HU.out k) (HI.out.blw.trans (c.below HI.out.blw.size (by simp)))) (by rw [hlen]; omega)
      rw [hlen] at SI
      have SN := Lib.hid SI
      clear SI hlen
      go_wp2
      go_region_with (go_at_call 19; refine (SN.out _ (by exact (C2.out.alloc _).drew)).mono ?_; rintro e w3 ⟨rfl, g3⟩)
      have kB := g3.blk' (b := w2.heap.size) (o := .cells #[.int .i64 tc, .int .u32 tp] 32 (0, 0)) (by simp (disch := (first | omega | (simp only [World.size_alloc, World.size_drew, World.size_setCell, size_setBlock] <;> omega) | fail)) only [blk_drew, blk_alloc_past, blk_alloc_at, blk_setCell_ne, blk_setCell_eq, blk_setBlock_ne, blk_setBlock_eq]) (by simp)
      obtain ⟨B2, hB2⟩ : ∃ B2, B2 = w2.heap.size := ⟨_, rfl⟩
      rw [← hB2] at kB ⊢
      have x0 := cell_of_blk kB 0
      have x1 := cell_of_blk kB 1
      have xl := blk_lt kB
      simp only [List.getElem?_toArray, List.getElem?_cons_zero, List.getElem?_cons_succ] at x0 x1
      have c3 : Chg (fun _ => False) w2 w3 := Chg.step (b := World.drew _) (((Chg.refl _ _).alloc _).drew) g3 (fun i _ h => h) (fun i _ h => h)
      have C3 := Lib.hid c3
      have KB := Lib.hid kB
      have HB2 := Lib.hid hB2
      have HTL3 := Lib.hid (HTL.out.frame c3 (by simp) (by simp))
      generalize hub : usedB (hist (us.take k)) (tc, tp) = used at *
      generalize hob : othersN (hist (us.take k)) (tc, tp) = oth at *
      have UB := Lib.hid (And.intro hub hob)
      clear hub hob c3 g3 kB hB2 v0 v1 v2 SN
      go_wp2_with fail
      refine (look_ok HTL3.out TOK.out (by omega)).mono ?_
      rintro e w4 ⟨rfl, h4, g4⟩
      obtain ⟨mf, mr, isb, hV, hisb, hmf⟩ := lookV_form HRE.out tc tp
      rw [hV]
      have blo := BL.out
      have kB4 := g4.blk' KB.out (by have := HTL.out.facts; have := HB2.out; omega)
      clear x0 x1 xl
      have x0 := cell_of_blk kB4 0
      have x1 := cell_of_blk kB4 1
      have xl := blk_lt kB4
      simp only [List.getElem?_toArray, List.getElem?_cons_zero, List.getElem?_cons_succ] at x0 x1
      obtain ⟨_, _, _, _, _, _, _, _, _, _, _, _, _, _, _, _, _, _⟩ := lts xl
      have MF := Lib.hid hmf
      have ISB := Lib.hid hisb
      have H4 := Lib.hid h4
      have G4 := Lib.hid g4
      have KB4 := Lib.hid kB4
      clear hV hisb hmf h4 g4 kB4 blo
      go_upto_region 24 with (fail)
      obtain ⟨C, hC⟩ : ∃ C, C = w4.heap.size := ⟨_, rfl⟩
      obtain ⟨w5, hw5⟩ : ∃ w5 : World, w5 = w4.alloc (.cells #[.int .u32 mf, .int .u8 mr] 38) := ⟨_, rfl⟩
      have kC : blk w5 C = some (.cells #[.int .u32 mf, .int .u8 mr] 38 (0, 0)) := by rw [hw5, hC]; simp (disch := (first | omega | (simp only [World.size_alloc, World.size_drew, World.size_setCell, size_setBlock] <;> omega) | fail)) only [blk_drew, blk_alloc_past, blk_alloc_at, blk_setCell_ne, blk_setCell_eq, blk_setBlock_ne, blk_setBlock_eq]
      have c45 : Chg (fun _ => False) w4 w5 := by rw [hw5]; repeat (first | exact Chg.refl _ _ | apply Chg.drew | (refine Chg.setCell ?_ (by simp) _) | (refine Chg.alloc ?_ _) | (refine Chg.setBlock ?_ (by simp) _))
      rw [← hw5, ← hC]
      have z0 := cell_of_blk kC 0
      simp only [List.getElem?_toArray, List.getElem?_cons_zero] at z0
      have kB5 := c45.blk' KB4.out (by simp)
      clear x0 x1 xl
      have x0 := cell_of_blk kB5 0
      have x1 := cell_of_blk kB5 1
      simp only [List.getElem?_toArray, List.getElem?_cons_zero, List.getElem?_cons_succ] at x0 x1
      have KB5 := Lib.hid kB5
      have C45 := Lib.hid c45
      clear hw5 hC kC kB5 c45
      have rule1 : isb = true → used = true := fun h => by rw [← UB.out.1]; exact rule_hit HRE.out (ISB.out ▸ h)
      have rule2 : isb = false → used = true → n + 1 ≤ oth := fun h hu => by rw [← UB.out.2]; exact rule_miss HRE.out (ISB.out ▸ h) (by rw [UB.out.1]; exact hu)
      have rule3 : pure = true → isb = (used && decide (oth < n + 1)) := fun h => by
        obtain ⟨T, t1, t2⟩ := HPU.out h
        rw [ISB.out, ← UB.out.1, ← UB.out.2]
        exact rule_pure t1 t2
      have RU := Lib.hid (And.intro rule1 (And.intro rule2 rule3))
      clear rule1 rule2 rule3
      go_cut [100] from 84 to 100 (fun s100 wc => s100 = .bool false ∧ wc = w5)
      case first =>
        cases isb with
        | false =>
          go_wp2
          go_meet
          case rel => exact ⟨rfl, rfl⟩
        | true =>
          obtain rfl : used = true := RU.out.1 rfl
          obtain rfl : mf = tp + 1000 * tc := MF.out rfl
          go_wp2
          go_meet
          case rel => exact ⟨by simp, rfl⟩
      case rest =>
        obtain ⟨rfl, rfl⟩ := hcut
        go_upto_region 26 with (fail)
        clear x0 x1 z0
        go_cut [123] from 101 to 123 (fun s123 w6 => s123 = .bool false ∧ w6 = wc)
        case first =>
          obtain ⟨r1, r2, r3⟩ := RU.out
          have R1 := Lib.hid r1
          have R2 := Lib.hid r2
          have R3 := Lib.hid r3
          clear r1 r2 r3
          by_cases hlt : oth < n + 1
          · have hltI : (oth : Int) < 1 + (n : Int) := by omega
            have hg : isb = used ∨ (isb = true ∧ pure = false) := by
              cases isb with
              | true => exact .inl (R1.out rfl).symm
              | false =>
                left
                cases used with
                | false => rfl
                | true => have := R2.out rfl rfl; omega
            clear hlt
            cases isb with
            | true =>
              obtain rfl : used = true := R1.out rfl
              cases pure with
              | true => go_wp2; go_meet; case rel => exact ⟨rfl, rfl⟩
              | false => go_wp2; go_meet; case rel => exact ⟨rfl, rfl⟩
            | false =>
              obtain rfl : used = false := by
                rcases hg with h | h
                · exact h.symm
                · cases h.1
              clear hg
              cases pure with
              | true => go_wp2; go_meet; case rel => exact ⟨rfl, rfl⟩
              | false => go_wp2; go_meet; case rel => exact ⟨rfl, rfl⟩
          · have hltI : ¬ ((oth : Int) < 1 + (n : Int)) := by omega
            cases isb with
            | true =>
              obtain rfl : used = true := R1.out rfl
              obtain rfl : pure = false := by
                cases pure with
                | false => rfl
                | true =>
                  have := R3.out rfl
                  rw [decide_eq_false hlt] at this
                  cases this
              clear hlt
              go_wp2; go_meet; case rel => exact ⟨rfl, rfl⟩
            | false =>
              clear hlt
              cases used with
              | false =>
                cases pure with
                | true => go_wp2; go_meet; case rel => exact ⟨rfl, rfl⟩
                | false => go_wp2; go_meet; case rel => exact ⟨rfl, rfl⟩
              | true =>
                cases pure with
                | true => go_wp2; go_meet; case rel => exact ⟨rfl, rfl⟩
                | false => go_wp2; go_meet; case rel => exact ⟨rfl, rfl⟩
        case rest =>
          obtain ⟨rfl, rfl⟩ := hcut
          go_upto_if 125 with (fail)
          have HTL5 := Lib.hid (H4.out.frame C45.out (by simp) (by simp))
          go_cut [] from 126 to 136 (fun w7 => ∃ L' now', now' ≤ 2 * ((k + 1 : Nat) : Int) ∧ TlbIs w7 b m (1 + (n : Int)) now' L' ∧ Reuse (hist (us.take (k + 1))) (n + 1) L' ∧ (pure = true → ∃ T, Held L' T (n + 1) ∧ Pure0 (hist (us.take (k + 1))) T) ∧ Chg (fun i => i = b ∨ i = m) wc w7)
          case first =>
            cases isb with
            | true =>
              go_wp2
              go_meet
              case rel =>
                have his := ISB.out
                obtain ⟨e0, he0⟩ := Option.isSome_iff_exists.1 his.symm
                have l1 : lookL L tc tp now = bump L tc tp e0.f e0.r now := by simp [lookL, he0]
                have n1 : lookNow L tc tp now = now + 1 := by simp [lookNow, he0]
                have hq := HTL5.out
                rw [l1, n1] at hq
                refine ⟨_, now + 1, by omega, hq, by rw [HTT.out]; exact reuse_hit HRE.out FU.out he0 now, fun hp => ?_, Chg.refl _ _⟩
                obtain ⟨T, t1, t2⟩ := HPU.out hp
                exact ⟨_, held_look t1 e0.f e0.r now his.symm, by rw [HTT.out]; exact pure_use t2 FU.out⟩
            | false =>
              have he0 : hitE L tc tp = none := by have := ISB.out; simpa using this.symm
              have l1 : lookL L tc tp now = L := by simp [lookL, he0]
              have n1 : lookNow L tc tp now = now := by simp [lookNow, he0]
              have HE0 := Lib.hid he0
              rw [l1, n1] at HTL5
              have x0 := cell_of_blk KB5.out 0
              have x1 := cell_of_blk KB5.out 1
              have xl := blk_lt KB5.out
              simp only [List.getElem?_toArray, List.getElem?_cons_zero, List.getElem?_cons_succ] at x0 x1
              clear l1 n1 he0
              go_wp2_with fail
              refine (put_ok HTL5.out TOK.out (by omega) (by omega)).mono ?_
              rintro e w8 ⟨rfl, h8, g8⟩
              have H8 := Lib.hid h8
              have G8 := Lib.hid g8
              clear h8 g8 x0 x1 xl
              go_wp2
              go_meet
              case rel =>
                have hput := reuse_put (x := (tc, tp)) HRE.out FU.out HE0.out 0 now (by omega)
                have hn1 : ((n + 1 : Nat) : Int) = 1 + (n : Int) := by omega
                rw [hn1] at hput
                refine ⟨_, now + 1, by omega, H8.out, by rw [HTT.out]; exact hput, fun hp => ?_, G8.out⟩
                obtain ⟨T, t1, t2⟩ := HPU.out hp
                have hh := held_put t1 (c := tc) (p := tp) (tp + 1000 * tc) 0 now (by rw [HE0.out]; rfl) (by omega)
                rw [hn1] at hh
                exact ⟨_, hh, by rw [HTT.out]; exact pure_use t2 FU.out⟩
          case rest =>
            obtain ⟨L', now', q1, q2, q3, q4, q5⟩ := hcut
            have hlen : (L'.length : Int) ≤ 1 + (n : Int) := by have := q3.len; omega
            have Q2 := Lib.hid q2
            have Q3 := Lib.hid q3
            have Q4 := Lib.hid q4
            have Q5 := Lib.hid q5
            clear q2 q3 q4 q5
            go_wp2_with fail
            refine (len_ok Q2.out).mono ?_
            rintro e w9 ⟨rfl, rfl⟩
            go_wp2
            go_roundg (gk - 1)
            case measure => have := KG.out; omega
            case rel =>
              have kg := KG.out
              have bw := BW.out
              have szz := bw.size
              have blo := BL.out
              have ch : Chg (fun i => i = b ∨ i = m) w2 _ := ((C3.out.step (S := fun i => i = b ∨ i = m) G4.out (fun i _ h => h.elim) (fun i _ h => h)).step (S := fun i => i = b ∨ i = m) C45.out (fun i _ h => h) (fun i _ h => h.elim)).step (S := fun i => i = b ∨ i = m) Q5.out (fun i _ h => h) (fun i _ h => h)
              exact ⟨k + 1, pure, by omega, by omega, rfl, by go_num, ⟨⟨L', now', q1, Q2.out, Q3.out, Q4.out⟩, bw.trans (ch.below szz (fun i hi h => by omega)), blo⟩⟩
    · by_cases hk1 : k < us.length
      · have hk2 : ¬ ((k : Int) < 300) := by omega
        clear hk hkg
        go_wp2
        go_ret
        exact ⟨rfl, HI.out.blw⟩
      · clear hk hkg
        go_wp2
        go_ret
        exact ⟨rfl, HI.out.blw⟩

theorem reuse_walk (w : World) (a0 : Int) (w0 : (Lit.int .i64 a0).wf = true) {v : Value} (hv : ∃ us, UsesAre w v us) :
    Calls Try.prog 5 #[.int .i64 a0, v] w fun e w' => e = .returned (.bool true) ∧ Below w.heap.size w w' := by
  obtain ⟨us, hu⟩ := hv
  exact reuse_core a0 (i64_of w0) v us w hu
end Go.Proofs.Ytoglgkplddlemaa
