/- Readers: contracts of whole (what reads several things), Text, Part, Pad. No condition. -/
import Derived.Test.YtfihpiommicdbaaDoorWirI
import Derived.Test.YtfihpiommicdbaaDoorLibBytes
import Derived.Deep.RegionLaw
import Derived.StillTailTactics
namespace Go.Proofs.YtfihpiommicdbaaDoor
open Go.RowKit Go.Cl
set_option linter.unusedVariables false
set_option linter.unusedSimpArgs false
attribute [local go_sem] lt_add_one' blk_alloc_past blk_alloc_at blk_drew blk_setCell_ne

/-- It stays where it was, if something went wrong. -/
def RS.back (s : RS) (p : Nat) : RS := if s.bad = 0 then s else { s with pos := p, wh := p }

set_option maxHeartbeats 1000000 in
set_option maxRecDepth 100000 in
theorem whole_ok {w : World} {base b : Nat} {v : Value} {s : RS} (h : RdIs w base b v s) (hbad : s.bad = 0) (g : Nat) (eg : ∀ args (w : World), (callFunc g args).run Tryd.prog w = .ok (.enter g args) w) (caps : Array Value) (Q : RS → World → Prop) (S : Nat → Prop) (hS : S b)
    (hg : Calls Tryd.prog g caps w fun e w1 => e = .returned (.tuple #[]) ∧ ∃ s', Q s' w1 ∧ s'.xs = s.xs ∧ RdIs w1 base b v s' ∧ Chg S w w1) :
    Calls Tryd.prog 63 #[.pointer (some ⟨b, 0, none⟩), .func (.func g) #[] caps] w fun e w' => e = .returned (.tuple #[]) ∧ ∃ s' w1, Q s' w1 ∧ Chg (fun i => i = b) w1 w' ∧ RdIs w' base b v (s'.back s.pos) ∧ Chg S w w' := by
  obtain ⟨hb, f0, f1, f2, f3, z1, z2, z3⟩ := h.facts
  have hb1 : (s.bad != 0) = false := by simp [hbad]
  have HG := Lib.hid hg
  have HP := Lib.hid h.le
  clear h f0 f2 z1 z2 z3 hbad hg
  go_enter Tryd.func63, Tryd.ntmps63
  go_wp2_with fail
  refine HG.out.mono ?_
  rintro e w1 ⟨rfl, s', hq, hxs, hg, hcs⟩
  obtain ⟨hb', y0, y1, y2, y3, x1, x2, x3⟩ := hg.facts
  have HQ := Lib.hid hq
  have HGG := Lib.hid hg
  have HCS := Lib.hid hcs
  have HXS := Lib.hid hxs
  clear hq hxs hg hcs HG f1 f3 y0
  by_cases hbad : s'.bad = 0
  · have hb2 : (s'.bad != 0) = false := by simp [hbad]
    have HE := Lib.hid (show s'.back s.pos = s' by unfold RS.back; rw [if_pos hbad])
    clear hbad
    go_wp2
    go_end0
    exact ⟨rfl, s', w1, HQ.out, Chg.refl _ _, by rw [HE.out]; exact HGG.out, HCS.out⟩
  · have hb2 : (s'.bad != 0) = true := by simp [hbad]
    have HE := Lib.hid (show s'.back s.pos = { s' with pos := s.pos, wh := s.pos } by unfold RS.back; rw [if_neg hbad])
    clear hbad
    have HB := Lib.hid (show RGoes w1 ((w1.setCell ⟨b, 1, none⟩ (.int .i64 s.pos)).setCell ⟨b, 2, none⟩ (.int .i64 s.pos)) base b v { s' with pos := s.pos, wh := s.pos } from HGG.out.put (((Chg.refl (fun i => i = b) w1).setCell (p := ⟨b, 1, none⟩) (fun _ => rfl) _).setCell (p := ⟨b, 2, none⟩) (fun _ => rfl) _) rfl (by rw [HXS.out]; exact HP.out) (by
      rw [blk_setCell_eq, blk_setCell_eq, HGG.out.st]
      simp [objSet]))
    go_wp2
    go_end0
    exact ⟨rfl, s', w1, HQ.out, HB.out.2, by rw [HE.out]; exact HB.out.1, HCS.out.trans HB.out.2 fun i _ h => by subst h; exact hS⟩

set_option maxRecDepth 100000 in
theorem whole_bad {w : World} {base b : Nat} {v : Value} {s : RS} (h : RdIs w base b v s) (hbad : s.bad ≠ 0) (f : Value) :
    Calls Tryd.prog 63 #[.pointer (some ⟨b, 0, none⟩), f] w fun e w' => e = .returned (.tuple #[]) ∧ w = w' := by
  obtain ⟨hb, f0, f1, f2, f3, z1, z2, z3⟩ := h.facts
  have hb1 : (s.bad != 0) = true := by simp [hbad]
  clear h f0 f1 f2 z1 z2 z3 hbad
  go_enter Tryd.func63, Tryd.ntmps63
  go_wp2
  refine bodyPost_ret (results_none rfl _ _ _) rfl ?_
  exact ⟨rfl, rfl⟩

/-! ### Text -/
def RS.text0 (s : RS) (most : Int) : RS := if most < 0 then s.fail 10 s.pos else s
def RS.text1 (s : RS) (most : Int) : RS := if most < (s.text0 most).num 2 then ((s.text0 most).next 2).fail 15 ((s.text0 most).next 2).pos else (s.text0 most).next 2
def RS.textN (s : RS) (most : Int) : Nat := ((s.text0 most).num 2).toNat
/-- What Text does, and what it tells. -/
def RS.textS (s : RS) (most : Int) : RS := if s.bad = 0 then ((s.text1 most).next (s.textN most)).back s.pos else s
def RS.textV (s : RS) (most : Int) : List Int := if s.bad = 0 then (s.text1 most).took (s.textN most) else []

theorem fail_xs (s : RS) (e p : Int) : (s.fail e p).xs = s.xs := by unfold RS.fail; split <;> rfl
theorem next_xs (s : RS) (n : Nat) : (s.next n).xs = s.xs := by
  unfold RS.next
  split
  · rfl
  · exact fail_xs _ _ _
theorem text1_xs (s : RS) (most : Int) : (s.text1 most).xs = s.xs := by
  have h0 : (s.text0 most).xs = s.xs := by unfold RS.text0; split; exact fail_xs _ _ _; rfl
  unfold RS.text1
  split
  · rw [fail_xs, next_xs, h0]
  · rw [next_xs, h0]

/-- A block that is none of a reader's stays where only the reader's turns. -/
theorem other_blk {w w' : World} {b c : Nat} {cs : Array Value} {t : TypeId} {fr : Nat × Nat} (hc : Chg (fun i => i = b) w w') (h : blk w c = some (.cells cs t fr)) (hn : c ≠ b) : blk w' c = some (.cells cs t fr) := hc.blk' h hn

set_option maxHeartbeats 2000000 in
set_option maxRecDepth 100000 in
theorem textC_ok {w : World} {base b : Nat} {v : Value} {s : RS} (h : RdIs w base b v s) (hbad : s.bad = 0) {most : Int} {M R S : Nat} (hM : blk w M = some (.cells #[.int .i64 most] 3 (0, 0))) (hR : blk w R = some (.cells #[.pointer (some ⟨b, 0, none⟩)] 56 (0, 0))) {s0 : Value} (hS : blk w S = some (.cells #[s0] 9 (0, 0))) :
    Calls Tryd.prog 78 #[.pointer (some ⟨M, 0, none⟩), .pointer (some ⟨R, 0, none⟩), .pointer (some ⟨S, 0, none⟩)] w fun e w1 => e = .returned (.tuple #[]) ∧ ∃ s', (s' = (s.text1 most).next (s.textN most) ∧ blk w1 S = some (.cells #[.string (strOfNums ((s.text1 most).took (s.textN most)))] 9 (0, 0))) ∧ s'.xs = s.xs ∧ RdIs w1 base b v s' ∧ Chg (fun i => i = b ∨ i = S) w w1 := by
  have nM : M ≠ b := fun e => by subst e; rw [h.st] at hM; simp at hM
  have nR : R ≠ b := fun e => by subst e; rw [h.st] at hR; simp at hR
  have nS : S ≠ b := fun e => by subst e; rw [h.st] at hS; simp at hS
  have m0 : w.cell? ⟨M, 0, none⟩ = some (.int .i64 most) := cell_of_blk hM 0
  have r0 : w.cell? ⟨R, 0, none⟩ = some (.pointer (some ⟨b, 0, none⟩)) := cell_of_blk hR 0
  have H := Lib.hid h
  have HM := Lib.hid hM
  have HR := Lib.hid hR
  have HS := Lib.hid hS
  have HF := Lib.hid (fun (wy : World) (hy : Chg (fun _ => False) w wy) => rfail_ok (h.frame hy fun _ _ => id) 10 s.pos)
  obtain ⟨hb, -, f1, -⟩ := h.facts
  clear h hM hR hS hbad
  go_enter Tryd.func78, Tryd.ntmps78
  go_upto_if 5 with (fail)
  go_cut [6] from 5 to 11 (fun s6 wq => ∃ wn, wn = wq ∧ RdIs wn base b v (s.text0 most) ∧ Chg (fun i => i = b) w wn)
  case first =>
    by_cases hm : most < 0
    · have HE := Lib.hid (show s.text0 most = s.fail 10 s.pos by unfold RS.text0; rw [if_pos hm])
      go_upto_region 1 with (fail)
      go_still_tail 5, (by kernel_rfl)
      change wpList _ _ _ _ _ (World.drew w)
      go_wp2_with fail
      refine (HF.out _ (Chg.refl _ _).drew).mono ?_
      rintro e w1 ⟨rfl, hg⟩
      have HG := Lib.hid hg
      clear hg HF
      go_wp2
      go_meet
      case rel => exact ⟨_, rfl, by rw [HE.out]; exact HG.out.1, (Chg.refl (fun i => i = b) w).drew.trans HG.out.2 fun _ _ h => h⟩
    · have HE := Lib.hid (show s.text0 most = s by unfold RS.text0; rw [if_neg hm])
      go_wp2
      go_meet
      case rel => exact ⟨_, rfl, by rw [HE.out]; exact H.out, Chg.refl _ _⟩
  case rest =>
    obtain ⟨wq, rfl, h1, hc1⟩ := hcut
    obtain ⟨t0, ht0⟩ : ∃ t0, t0 = s.text0 most := ⟨_, rfl⟩
    rw [← ht0] at h1
    have HT0 := Lib.hid ht0
    obtain ⟨t2, ht2⟩ : ∃ t2, t2 = t0.next 2 := ⟨_, rfl⟩
    have HT2 := Lib.hid ht2
    have hM1 := other_blk hc1 HM.out nM
    have hR1 := other_blk hc1 HR.out nR
    have hS1 := other_blk hc1 HS.out nS
    have r1 : wq.cell? ⟨R, 0, none⟩ = some (.pointer (some ⟨b, 0, none⟩)) := cell_of_blk hR1 0
    have hh := rHalf_ok h1
    rw [← ht2] at hh
    have HH := Lib.hid hh
    have HC1 := Lib.hid hc1
    have HM1 := Lib.hid hM1
    have HR1 := Lib.hid hR1
    have HS1 := Lib.hid hS1
    have nb := num_bd h1.byte 2
    obtain ⟨N, hN⟩ := Int.eq_ofNat_of_zero_le nb.1
    rw [hN] at HH nb
    have HNN := Lib.hid hN
    have HN2 := Lib.hid (show s.textN most = N by unfold RS.textN; rw [← ht0, hN]; rfl)
    clear h1 hc1 hM1 hR1 hS1 m0 r0 HF hN hh ht0 ht2
    obtain ⟨-, nb⟩ := nb
    have nb3 : (N : Int) < 65536 := nb
    have nb2 : (N : Int) ≤ 65535 := by omega
    clear nb nb3
    go_wp2_with fail
    refine HH.out.mono ?_
    rintro e w2 ⟨rfl, hg⟩
    have hM2 := other_blk hg.2 HM1.out nM
    have hR2 := other_blk hg.2 HR1.out nR
    have hS2 := other_blk hg.2 HS1.out nS
    have m2 : w2.cell? ⟨M, 0, none⟩ = some (.int .i64 most) := cell_of_blk hM2 0
    have r2 : w2.cell? ⟨R, 0, none⟩ = some (.pointer (some ⟨b, 0, none⟩)) := cell_of_blk hR2 0
    obtain ⟨-, -, f1, -⟩ := hg.1.facts
    have HG := Lib.hid hg
    have HC2 := Lib.hid (HC1.out.trans hg.2 fun _ _ h => h)
    have HF := Lib.hid (fun (wy : World) (hy : Chg (fun _ => False) w2 wy) => rfail_ok (hg.1.frame hy fun _ _ => id) 15 t2.pos)
    have HR2 := Lib.hid hR2
    have HS2 := Lib.hid hS2
    clear hg HH hM2 hR2 hS2 HM1 HR1 HS1 r1
    go_upto_if 17 with (fail)
    go_cut [18] from 17 to 23 (fun s18 wq => ∃ wn, wn = wq ∧ RdIs wn base b v (s.text1 most) ∧ Chg (fun i => i = b) w2 wn)
    case first =>
      by_cases hm : most < (N : Int)
      · have HE := Lib.hid (show s.text1 most = t2.fail 15 t2.pos by unfold RS.text1; rw [← HT0.out, HNN.out, if_pos hm, HT2.out])
        go_upto_region 4 with (fail)
        go_still_tail 5, (by kernel_rfl)
        change wpList _ _ _ _ _ (World.drew w2)
        go_wp2_with fail
        refine (HF.out _ (Chg.refl _ _).drew).mono ?_
        rintro e w1 ⟨rfl, hg⟩
        have HG2 := Lib.hid hg
        clear hg HF
        go_wp2
        go_meet
        case rel => exact ⟨_, rfl, by rw [HE.out]; exact HG2.out.1, (Chg.refl (fun i => i = b) w2).drew.trans HG2.out.2 fun _ _ h => h⟩
      · have HE := Lib.hid (show s.text1 most = t2 by unfold RS.text1; rw [← HT0.out, HNN.out, if_neg hm, HT2.out])
        go_wp2
        go_meet
        case rel => exact ⟨_, rfl, by rw [HE.out]; exact HG.out.1, Chg.refl _ _⟩
    case rest =>
      obtain ⟨w3, rfl, h3, hc3⟩ := hcut
      have hR3 := other_blk hc3 HR2.out nR
      have hS3 := other_blk hc3 HS2.out nS
      have r3 : w3.cell? ⟨R, 0, none⟩ = some (.pointer (some ⟨b, 0, none⟩)) := cell_of_blk hR3 0
      have HNX := Lib.hid (rnext_ok h3 N (by omega))
      have HC3 := Lib.hid (HC2.out.trans hc3 fun _ _ h => h)
      have HS3 := Lib.hid hS3
      clear h3 hc3 hR3 hS3 r2 m2 f1 HF HG
      go_wp2_with fail
      refine HNX.out.mono ?_
      rintro e w4 ⟨v', rfl, hb4, hg4⟩
      have hS4 := other_blk hg4.2 HS3.out nS
      have s4 : w4.cell? ⟨S, 0, none⟩ = some s0 := cell_of_blk hS4 0
      have z4 := frozen_of_blk hS4 0
      obtain ⟨x, hx⟩ : ∃ x, x = (s.text1 most).took N := ⟨_, rfl⟩
      rw [← hx] at hb4
      have HB4 := Lib.hid hb4
      obtain ⟨ob, c, rfl, hb41, hb42, -⟩ := hb4
      have cx := conv_src (P := Tryd.prog) Tryd.underlying24 Tryd.underlying5 Tryd.underlying9 (xs := x) HB4.out.src c
      have HG4 := Lib.hid hg4
      have HX := Lib.hid hx
      have HS4 := Lib.hid hS4
      clear hg4 hx hS4 HNX r3 HS3 hb41
      obtain ⟨str, hstr⟩ : ∃ str, str = strOfNums x := ⟨_, rfl⟩
      rw [← hstr] at cx
      have HSTR := Lib.hid hstr
      clear hstr
      go_wp2
      go_end0
      have hc5 : Chg (fun i => i = S) w4 (w4.setCell ⟨S, 0, none⟩ (.string str)) := Chg.setCell (S := fun i => i = S) (Chg.refl _ _) (p := ⟨S, 0, none⟩) (fun _ => rfl) _
      refine ⟨rfl, _, ⟨by rw [HN2.out], ?_⟩, ?_, HG4.out.1.frame hc5 ?_, (HC3.out.mono fun _ _ h => .inl h).trans ((HG4.out.2.mono fun _ _ h => .inl h).trans (hc5.mono fun _ _ h => .inr h) fun _ _ h => h) fun _ _ h => h⟩
      · rw [blk_setCell_eq, HS4.out, HN2.out, ← HX.out, ← HSTR.out]
        simp [objSet]
      · rw [next_xs, text1_xs]
      · rintro i (rfl | hi) e
        · exact nS e.symm
        · obtain ⟨_, cur, hcu⟩ := row_block HG4.out.1.row hi.symm
          rw [e, HS4.out] at hcu
          simp only [Option.some.injEq, Obj.cells.injEq] at hcu
          exact absurd hcu.2.1 (by decide)

set_option maxHeartbeats 2000000 in
set_option maxRecDepth 100000 in
theorem rtext_ok {w : World} {base b : Nat} {v : Value} {s : RS} (h : RdIs w base b v s) (hbs : base ≤ w.heap.size) (most : Int) :
    Calls Tryd.prog 34 #[.pointer (some ⟨b, 0, none⟩), .int .i64 most] w fun e w' => e = .returned (.string (strOfNums (s.textV most))) ∧ RGoes w w' base b v (s.textS most) := by
  have hb := blk_lt h.st
  have c1 : Chg (fun _ => False) w (((w.alloc (.cells #[.pointer (some ⟨b, 0, none⟩)] 56 (0, 0))).alloc (.cells #[.int .i64 most] 3 (0, 0))).alloc (.cells #[.string ⟨#[]⟩] 9 (0, 0))) := (((Chg.refl _ _).alloc _).alloc _).alloc _
  have hR : blk (((w.alloc (.cells #[.pointer (some ⟨b, 0, none⟩)] 56 (0, 0))).alloc (.cells #[.int .i64 most] 3 (0, 0))).alloc (.cells #[.string ⟨#[]⟩] 9 (0, 0))) w.heap.size = some (.cells #[.pointer (some ⟨b, 0, none⟩)] 56 (0, 0)) := by
    rw [blk_alloc_past _ _ _ (by simp; omega), blk_alloc_past _ _ _ (by simp), blk_alloc_at _ _ _ rfl]
  have hM : blk (((w.alloc (.cells #[.pointer (some ⟨b, 0, none⟩)] 56 (0, 0))).alloc (.cells #[.int .i64 most] 3 (0, 0))).alloc (.cells #[.string ⟨#[]⟩] 9 (0, 0))) (w.heap.size + 1) = some (.cells #[.int .i64 most] 3 (0, 0)) := by
    rw [blk_alloc_past _ _ _ (by simp), blk_alloc_at _ _ _ (by simp)]
  have hS : blk (((w.alloc (.cells #[.pointer (some ⟨b, 0, none⟩)] 56 (0, 0))).alloc (.cells #[.int .i64 most] 3 (0, 0))).alloc (.cells #[.string ⟨#[]⟩] 9 (0, 0))) (w.heap.size + 1 + 1) = some (.cells #[.string ⟨#[]⟩] 9 (0, 0)) := blk_alloc_at _ _ _ (by simp)
  have h1 := h.frame c1 fun _ _ => id
  by_cases hbad : s.bad = 0
  · have HE1 := Lib.hid (show s.textS most = ((s.text1 most).next (s.textN most)).back s.pos by unfold RS.textS; rw [if_pos hbad])
    have HE2 := Lib.hid (show s.textV most = (s.text1 most).took (s.textN most) by unfold RS.textV; rw [if_pos hbad])
    have HW := Lib.hid (whole_ok h1 hbad 78 (fun _ _ => rfl) #[.pointer (some ⟨w.heap.size + 1, 0, none⟩), .pointer (some ⟨w.heap.size, 0, none⟩), .pointer (some ⟨w.heap.size + 1 + 1, 0, none⟩)] (fun s' w1 => s' = (s.text1 most).next (s.textN most) ∧ blk w1 (w.heap.size + 1 + 1) = some (.cells #[.string (strOfNums ((s.text1 most).took (s.textN most)))] 9 (0, 0))) (fun i => i = b ∨ i = w.heap.size + 1 + 1) (.inl rfl) (textC_ok h1 hbad hM hR hS))
    have C1 := Lib.hid c1
    have HNB := Lib.hid (show w.heap.size + 1 + 1 ≠ b by omega)
    have HR := Lib.hid hR
    clear h1 h c1 hR hM hS hbad
    go_enter Tryd.func34, Tryd.ntmps34
    go_wp2_with fail
    refine HW.out.mono ?_
    rintro e w2 ⟨rfl, s', w1, ⟨rfl, hS1⟩, hc12, hrd, hcw⟩
    have hS2 := other_blk hc12 hS1 HNB.out
    obtain ⟨x, hx⟩ : ∃ x, x = strOfNums ((s.text1 most).took (s.textN most)) := ⟨_, rfl⟩
    rw [← hx] at hS2
    have x0 : w2.cell? ⟨w.heap.size + 1 + 1, 0, none⟩ = some (.string x) := cell_of_blk hS2 0
    have HX := Lib.hid hx
    have HRD := Lib.hid hrd
    have HCW := Lib.hid (C1.out.step hcw (S := fun i => i = b) (fun _ _ h => h.elim) fun i hi h => h.elim id fun h => by omega)
    clear hx hrd hcw hS2 hS1 hc12 HW
    go_wp2
    go_ret
    exact ⟨by rw [HE2.out, ← HX.out]; rfl, by rw [HE1.out]; exact ⟨HRD.out, HCW.out⟩⟩
  · have HE1 := Lib.hid (show s.textS most = s by unfold RS.textS; rw [if_neg hbad])
    have HE2 := Lib.hid (show s.textV most = [] by unfold RS.textV; rw [if_neg hbad])
    have HW := Lib.hid (fun f => whole_bad h1 hbad f)
    have x0 : (((w.alloc (.cells #[.pointer (some ⟨b, 0, none⟩)] 56 (0, 0))).alloc (.cells #[.int .i64 most] 3 (0, 0))).alloc (.cells #[.string ⟨#[]⟩] 9 (0, 0))).cell? ⟨w.heap.size + 1 + 1, 0, none⟩ = some (.string ⟨#[]⟩) := cell_of_blk hS 0
    have H := Lib.hid h
    have C1 := Lib.hid c1
    clear h1 h c1 hR hM hS hbad
    go_enter Tryd.func34, Tryd.ntmps34
    go_wp2_with fail
    refine (HW.out _).mono ?_
    rintro e w2 ⟨rfl, rfl⟩
    go_wp2
    go_ret
    exact ⟨by rw [HE2.out]; rfl, by rw [HE1.out]; exact H.out.stays C1.out⟩

theorem RdIs.lower {w : World} {base base' b : Nat} {v : Value} {s : RS} (h : RdIs w base b v s) (hb : base' ≤ base) : RdIs w base' b v s := by
  refine ⟨h.st, ?_, h.byte, h.le, h.few, Nat.le_trans hb h.nb⟩
  obtain ⟨h1, h2 | ⟨g, cap, cur, hv, hg, r⟩⟩ := h.row
  · exact ⟨h1, .inl h2⟩
  · exact ⟨h1, .inr ⟨g, cap, cur, hv, Nat.le_trans hb hg, r⟩⟩
/-- A block of another kind is none of a reader's. -/
theorem RdIs.other {w : World} {base b : Nat} {v : Value} {s : RS} (h : RdIs w base b v s) {P : Nat} {cs : Array Value} {t : TypeId} {fr : Nat × Nat} (hP : blk w P = some (.cells cs t fr)) (h1 : t ≠ 106) (h2 : t ≠ 5) : ∀ i, RFoot b v i → ¬ (i = P) := by
  rintro i (rfl | hi) rfl
  · rw [h.st] at hP
    simp only [Option.some.injEq, Obj.cells.injEq] at hP
    exact h1 hP.2.1.symm
  · obtain ⟨_, cur, hc⟩ := row_block h.row hi.symm
    rw [hc] at hP
    simp only [Option.some.injEq, Obj.cells.injEq] at hP
    exact h2 hP.2.1.symm
/-! ### Part -/
def RS.partN (s : RS) : Nat := (s.num 4).toNat
/-- What Part does, and of what bytes the part is. -/
def RS.partS (s : RS) : RS := if s.bad = 0 then ((s.next 4).next s.partN).back s.pos else s
def RS.partR (s : RS) : RS := if s.partS.bad = 0 then RS.zero ((s.next 4).took s.partN) else ⟨[], 0, 0, s.partS.bad⟩

set_option maxHeartbeats 2000000 in
set_option maxRecDepth 100000 in
theorem partC_ok {w : World} {base b : Nat} {v : Value} {s : RS} (h : RdIs w base b v s) (hb0 : base ≤ w.heap.size) {R P : Nat} (hR : blk w R = some (.cells #[.pointer (some ⟨b, 0, none⟩)] 56 (0, 0))) {p0 : Value} (hP : blk w P = some (.cells #[p0] 56 (0, 0))) :
    Calls Tryd.prog 64 #[.pointer (some ⟨R, 0, none⟩), .pointer (some ⟨P, 0, none⟩)] w fun e w1 => e = .returned (.tuple #[]) ∧ ∃ s', (s' = (s.next 4).next s.partN ∧ ∃ b' v', blk w1 P = some (.cells #[.pointer (some ⟨b', 0, none⟩)] 56 (0, 0)) ∧ RdIs w1 w.heap.size b' v' (RS.zero ((s.next 4).took s.partN))) ∧ s'.xs = s.xs ∧ RdIs w1 base b v s' ∧ Chg (fun i => i = b ∨ i = P) w w1 := by
  have nR : R ≠ b := fun e => by subst e; rw [h.st] at hR; simp at hR
  have nP : P ≠ b := fun e => by subst e; rw [h.st] at hP; simp at hP
  have r0 : w.cell? ⟨R, 0, none⟩ = some (.pointer (some ⟨b, 0, none⟩)) := cell_of_blk hR 0
  have HW := Lib.hid (fun (wy : World) (hy : Chg (fun _ => False) w wy) => rWord_ok (h.frame hy fun _ _ => id))
  have nb := num_bd h.byte 4
  obtain ⟨N, hN⟩ := Int.eq_ofNat_of_zero_le nb.1
  rw [hN] at HW nb
  have HN2 := Lib.hid (show s.partN = N by unfold RS.partN; rw [hN]; rfl)
  obtain ⟨-, nb⟩ := nb
  have nb2 : (N : Int) ≤ 4294967295 := by
    have : (256 : Int) ^ 4 = 4294967296 := by decide
    omega
  have HR := Lib.hid hR
  have HP := Lib.hid hP
  have H := Lib.hid h
  clear h hR hP hN nb
  go_enter Tryd.func64, Tryd.ntmps64
  have wN : IntKind.i64.wrap (N : Int) = (N : Int) := by rw [IntKind.wrap_i64]; omega
  go_region_with (first | (go_at_call 50; refine (HW.out _ (by repeat (first | exact Chg.refl _ _ | apply Chg.drew | (refine Chg.setCell ?_ (by simp) _) | (refine Chg.alloc ?_ _) | (refine Chg.setBlock ?_ (by simp) _)))).mono ?_; rintro e w1 ⟨rfl, hg1⟩; have hc1 := (Chg.refl (fun i => i = b) w).drew.trans hg1.2 (fun _ _ h => h); have r1 : w1.cell? ⟨R, 0, none⟩ = some (.pointer (some ⟨b, 0, none⟩)) := cell_of_blk (other_blk hc1 HR.out nR) 0; have HNX := Lib.hid (rnext_ok hg1.1 N (by omega)); have HC1 := Lib.hid hc1; have HP1 := Lib.hid (other_blk hc1 HP.out nP); clear hg1 hc1) | (go_at_call 65; refine (HNX.out).mono ?_; rintro e w2 ⟨v2, rfl, hb2, hg2⟩; have HNR := Lib.hid (newR_ok hb2 (Nat.le_trans (took_few _ _) (by rw [next_xs]; exact H.out.few))); have HG2 := Lib.hid hg2; have HC2 := Lib.hid (HC1.out.trans hg2.2 fun _ _ h => h); have HP2 := Lib.hid (other_blk hg2.2 HP1.out nP); clear hb2 hg2) | (go_at_call 23; refine (HNR.out).mono ?_; rintro e w3 ⟨b3, v3, rfl, hr3, hc3⟩; have HC3 := Lib.hid (HC2.out.trans hc3 fun _ _ h => h.elim); have hP3 := hc3.blk' HP2.out id; have p3 : w3.cell? ⟨P, 0, none⟩ = some p0 := cell_of_blk hP3 0; have q3 := frozen_of_blk hP3 0; have HP3 := Lib.hid hP3; have HR3 := Lib.hid hr3; have HG3 := Lib.hid (HG2.out.1.frame hc3 fun _ _ => id); clear hr3 hc3 hP3))
  all_goals
    have hc5 : Chg (fun i => i = P) w3 (w3.setCell ⟨P, 0, none⟩ (.pointer (some ⟨b3, 0, none⟩))) := Chg.setCell (S := fun i => i = P) (Chg.refl _ _) (p := ⟨P, 0, none⟩) (fun _ => rfl) _
    have HC5 := Lib.hid hc5
    clear hc5
    go_end0
    refine ⟨rfl, _, ⟨by rw [HN2.out], b3, v3, ?_, by rw [HN2.out]; exact (HR3.out.lower (Nat.le_trans HC1.out.size HG2.out.2.size)).frame HC5.out (HR3.out.other HP3.out (by decide) (by decide))⟩, ?_, HG3.out.frame HC5.out (HG3.out.other HP3.out (by decide) (by decide)), (HC3.out.mono fun _ _ h => .inl h).trans (HC5.out.mono fun _ _ h => .inr h) fun _ _ h => h⟩
    · rw [blk_setCell_eq, HP3.out]
      simp [objSet]
    · rw [next_xs, next_xs]

set_option maxHeartbeats 2000000 in
set_option maxRecDepth 100000 in
/-- Part: the reader goes on; the part is a reader of its own. -/
theorem rpart_ok {w : World} {base b : Nat} {v : Value} {s : RS} (h : RdIs w base b v s) (hbs : base ≤ w.heap.size) :
    Calls Tryd.prog 25 #[.pointer (some ⟨b, 0, none⟩)] w fun e w' => ∃ b' v', e = .returned (.pointer (some ⟨b', 0, none⟩)) ∧ RdIs w' w.heap.size b' v' s.partR ∧ RGoes w w' base b v s.partS := by
  have hb := blk_lt h.st
  have c1 : Chg (fun _ => False) w (((w.alloc (.cells #[.pointer (some ⟨b, 0, none⟩)] 56 (0, 0))).alloc (.cells #[.slice none 0 0, .int .i64 0, .int .i64 0, .int .i64 0] 106 (0, 0))).alloc (.cells #[.pointer (some ⟨w.heap.size + 1, 0, none⟩)] 56 (0, 0))) := (((Chg.refl _ _).alloc _).alloc _).alloc _
  have hR : blk (((w.alloc (.cells #[.pointer (some ⟨b, 0, none⟩)] 56 (0, 0))).alloc (.cells #[.slice none 0 0, .int .i64 0, .int .i64 0, .int .i64 0] 106 (0, 0))).alloc (.cells #[.pointer (some ⟨w.heap.size + 1, 0, none⟩)] 56 (0, 0))) w.heap.size = some (.cells #[.pointer (some ⟨b, 0, none⟩)] 56 (0, 0)) := by
    rw [blk_alloc_past _ _ _ (by simp; omega), blk_alloc_past _ _ _ (by simp), blk_alloc_at _ _ _ rfl]
  have hP : blk (((w.alloc (.cells #[.pointer (some ⟨b, 0, none⟩)] 56 (0, 0))).alloc (.cells #[.slice none 0 0, .int .i64 0, .int .i64 0, .int .i64 0] 106 (0, 0))).alloc (.cells #[.pointer (some ⟨w.heap.size + 1, 0, none⟩)] 56 (0, 0))) (w.heap.size + 1 + 1) = some (.cells #[.pointer (some ⟨w.heap.size + 1, 0, none⟩)] 56 (0, 0)) := blk_alloc_at _ _ _ (by simp)
  have h1 := h.frame c1 fun _ _ => id
  by_cases hbad : s.bad = 0
  · have HE1 := Lib.hid (show s.partS = ((s.next 4).next s.partN).back s.pos by unfold RS.partS; rw [if_pos hbad])
    have HW := Lib.hid (whole_ok h1 hbad 64 (fun _ _ => rfl) #[.pointer (some ⟨w.heap.size, 0, none⟩), .pointer (some ⟨w.heap.size + 1 + 1, 0, none⟩)] _ (fun i => i = b ∨ i = w.heap.size + 1 + 1) (.inl rfl) (partC_ok h1 (Nat.le_trans hbs c1.size) hR hP))
    have C1 := Lib.hid c1
    have HNB := Lib.hid (show w.heap.size + 1 + 1 ≠ b by omega)
    have HNR := Lib.hid (show w.heap.size ≠ b by omega)
    have HR := Lib.hid hR
    clear h1 h c1 hR hP hbad
    go_enter Tryd.func25, Tryd.ntmps25
    go_wp2_with fail
    refine HW.out.mono ?_
    rintro e w2 ⟨rfl, s', w1, ⟨rfl, b', v', hP1, hr1⟩, hc12, hrd, hcw⟩
    rw [← HE1.out] at hrd
    have hP2 := other_blk hc12 hP1 HNB.out
    have hR2 := hcw.blk' HR.out (fun h => h.elim HNR.out fun h => by omega)
    have x0 : w2.cell? ⟨w.heap.size + 1 + 1, 0, none⟩ = some (.pointer (some ⟨b', 0, none⟩)) := cell_of_blk hP2 0
    have x1 : w2.cell? ⟨w.heap.size, 0, none⟩ = some (.pointer (some ⟨b, 0, none⟩)) := cell_of_blk hR2 0
    obtain ⟨-, -, -, -, y3, -⟩ := hrd.facts
    have HR1 := Lib.hid ((hr1.lower C1.out.size).frame hc12 fun i hi e => by
      have := (hr1.foot hi).1
      have := C1.out.size
      omega)
    have HRD := Lib.hid hrd
    have HCW := Lib.hid (C1.out.step hcw (S := fun i => i = b) (fun _ _ h => h.elim) fun i hi h => h.elim id fun h => by omega)
    clear hrd hcw hP2 hP1 hr1 hc12 HW hR2
    by_cases hb2 : s.partS.bad = 0
    · have hb3 : (s.partS.bad != 0) = false := by simp [hb2]
      have HE3 := Lib.hid (show s.partR = RS.zero ((s.next 4).took s.partN) by unfold RS.partR; rw [if_pos hb2])
      clear hb2
      go_wp2
      go_ret
      exact ⟨_, _, rfl, by rw [HE3.out]; exact HR1.out, HRD.out, HCW.out⟩
    · have hb3 : (s.partS.bad != 0) = true := by simp [hb2]
      have HE3 := Lib.hid (show s.partR = ⟨[], 0, 0, s.partS.bad⟩ by unfold RS.partR; rw [if_neg hb2])
      clear hb2
      go_wp2
      go_ret
      have HSZ := HCW.out.size
      exact ⟨_, _, rfl, by rw [HE3.out]; exact ⟨blk_alloc_at _ _ _ rfl, nil_row _ _ _, fun x hx => by simp at hx, by simp, by simp, HSZ⟩, HRD.out.frame ((Chg.refl (fun _ => False) w2).alloc _) fun _ _ => id, HCW.out.alloc _⟩
  · have HE1 := Lib.hid (show s.partS = s by unfold RS.partS; rw [if_neg hbad])
    have HE3 := Lib.hid (show s.partR = ⟨[], 0, 0, s.bad⟩ by unfold RS.partR; rw [HE1.out, if_neg hbad])
    have HW := Lib.hid (fun f => whole_bad h1 hbad f)
    have hb3 : (s.bad != 0) = true := by simp [hbad]
    obtain ⟨-, -, -, -, y3, -⟩ := h1.facts
    have x1 := cell_of_blk hR 0
    have H := Lib.hid h
    have H1 := Lib.hid h1
    have C1 := Lib.hid c1
    clear h1 h c1 hR hP hbad
    go_enter Tryd.func25, Tryd.ntmps25
    go_wp2_with fail
    refine (HW.out _).mono ?_
    rintro e w2 ⟨rfl, rfl⟩
    obtain ⟨w3, hw3⟩ : ∃ w3, w3 = (((w.alloc (.cells #[.pointer (some ⟨b, 0, none⟩)] 56 (0, 0))).alloc (.cells #[.slice none 0 0, .int .i64 0, .int .i64 0, .int .i64 0] 106 (0, 0))).alloc (.cells #[.pointer (some ⟨w.heap.size + 1, 0, none⟩)] 56 (0, 0))) := ⟨_, rfl⟩
    rw [← hw3] at x1 y3 C1 H1 ⊢
    have x2 : w3.cell? ⟨w.heap.size, 0, none⟩ = some (.pointer (some ⟨b, 0, none⟩)) := x1
    clear hw3 HW x1
    go_wp2
    go_ret
    exact ⟨_, _, rfl, by rw [HE3.out]; exact ⟨blk_alloc_at _ _ _ rfl, nil_row _ _ _, fun x hx => by simp at hx, by simp, by simp, C1.out.size⟩, by rw [HE1.out]; exact ⟨H1.out.frame ((Chg.refl (fun _ => False) w3).alloc _) fun _ _ => id, (C1.out.mono fun _ _ h => h.elim).alloc _⟩⟩
end Go.Proofs.YtfihpiommicdbaaDoor
