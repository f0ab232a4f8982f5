/- HoursAll: All tells each window once; Of tells all windows of the frame: for every input. No condition. -/
import Derived.Test.YtkeoaeeneenkaaaHrsI
import Derived.Test.YtkeoaeeneenkaaaLibSeq
namespace Go.Proofs.Ytkeoaeeneenkaaa
open Go.RowKit Go.Cl Go.Shelf
set_option linter.unusedVariables false
set_option linter.unusedSimpArgs false
attribute [local go_sem] lt_add_one' blk_alloc_past blk_alloc_at blk_drew blk_setCell_ne
attribute [local go_sem] Oper.semAt_some

theorem kc {w w' : World} {b : Nat} {v : Value} {t : TypeId} (hb : blk w b = some (.cells #[v] t (0, 0))) (h : Chg (fun _ => False) w w') : w'.cell? ⟨b, 0, none⟩ = some v := cell_of_blk (h.blk' hb id) 0
theorem run_seq_nil (g : Nat) (cap : Array Value) (w : World) : (binOp .eql 33 (.func (.func g) #[] cap) .nilFunc).run Try.prog w = .ok (.bool false) w := by kernel_rfl
attribute [local go_sem] run_seq_nil
theorem boxed_blk {W : World} {B : Nat} {t : TypeId} {v : Value} (h : Boxed W B t v) : blk W B = some (.cells #[v] t (0, 0)) := h

def AllGood (T : Tab) (f t : Int) (pre : List U) : Prop := ∀ (i : Nat) (x : U), pre[i]? = some x → GoodAt T f t i x.1

/-- What holds between two rounds. -/
structure LI (w : World) (p4 p6 p7 p10 p11 p14 b : Nat) (sv : Value) (T : Tab) (f t fi : Int) (pre : List U) (W : World) : Prop where
  b4 : blk W p4 = some (.cells #[.int .u64 f] 23 (0, 0))
  b6 : blk W p6 = some (.cells #[.bool false] 4 (0, 0))
  b7 : blk W p7 = some (.cells #[ptrV b] 24 (0, 0))
  b10 : blk W p10 = some (.cells #[.int .u64 t] 23 (0, 0))
  b11 : blk W p11 = some (.cells #[.int .u64 fi] 23 (0, 0))
  b14 : blk W p14 = some (.cells #[.int .u64 pre.length] 23 (0, 0))
  tab : HourIs W b sv T
  chg : Chg (fun _ => False) w W
  good : AllGood T f t pre

theorem LI.own {w : World} {B p4 p6 p7 p10 p11 p14 b : Nat} {sv : Value} {T : Tab} {f t fi : Int} (hB : w.heap.size ≤ B) : OwnFrom B (LI w p4 p6 p7 p10 p11 p14 b sv T f t fi) := fun s A C row hs hg hr => by
  have hc := Chg.of_grown hg
  refine ⟨hc.blk' hs.b4 (not_row hr hs.b4), hc.blk' hs.b6 (not_row hr hs.b6), hc.blk' hs.b7 (not_row hr hs.b7), hc.blk' hs.b10 (not_row hr hs.b10), hc.blk' hs.b11 (not_row hr hs.b11), hc.blk' hs.b14 (not_row hr hs.b14), hs.tab.frame hc (not_row hr hs.tab.st) fun g hg' => ?_, own_chg (β := Unit) hB () A C row hs.chg hg hr, hs.good⟩
  obtain ⟨_, cur, hcur⟩ := row_block hs.tab.row hg'
  exact not_row hr hcur

theorem LI.bump {w W W3 : World} {p4 p6 p7 p10 p11 p14 b : Nat} {sv : Value} {T : Tab} {f t fi : Int} {pre : List U} {x : U} (h : LI w p4 p6 p7 p10 p11 p14 b sv T f t fi pre W) (hc : Chg (fun _ => False) W W3) (h14 : w.heap.size ≤ p14)
    (n4 : p4 < p14) (n6 : p6 < p14) (n7 : p7 < p14) (n10 : p10 < p14) (n11 : p11 < p14) (nb : b < p14) (hg : AllGood T f t (pre ++ [x])) : LI w p4 p6 p7 p10 p11 p14 b sv T f t fi (pre ++ [x]) (W3.setCell ⟨p14, 0, none⟩ (.int .u64 (pre.length + 1))) := by
  refine ⟨?_, ?_, ?_, ?_, ?_, ?_, ?_, ?_, hg⟩
  · rw [blk_setCell_ne _ _ _ _ (by dsimp only; omega)]; exact hc.blk' h.b4 id
  · rw [blk_setCell_ne _ _ _ _ (by dsimp only; omega)]; exact hc.blk' h.b6 id
  · rw [blk_setCell_ne _ _ _ _ (by dsimp only; omega)]; exact hc.blk' h.b7 id
  · rw [blk_setCell_ne _ _ _ _ (by dsimp only; omega)]; exact hc.blk' h.b10 id
  · rw [blk_setCell_ne _ _ _ _ (by dsimp only; omega)]; exact hc.blk' h.b11 id
  · rw [blk_setCell _ _ _ _ _ _ _ (hc.blk' h.b14 id)]
    simp
  · refine (h.tab.frame0 hc).frame (S := fun i => i = p14) (Chg.setCell (S := fun i => i = p14) (Chg.refl _ _) (p := ⟨p14, 0, none⟩) (fun _ => rfl) _) (by omega) fun g hg e => ?_
    subst e
    obtain ⟨_, cur, hcur⟩ := row_block h.tab.row hg
    rw [h.b14] at hcur
    simp only [Option.some.injEq, Obj.cells.injEq] at hcur
    exact absurd hcur.2.1 (by decide)
  · exact (h.chg.trans hc fun _ _ => id).setCell (fun hh => by dsimp only at hh; omega) _

theorem LI.keep {w W W3 : World} {p4 p6 p7 p10 p11 p14 b ph : Nat} {sv : Value} {T : Tab} {f t fi : Int} {pre : List U} {v : Value} (h : LI w p4 p6 p7 p10 p11 p14 b sv T f t fi pre W) (hc : Chg (fun _ => False) W W3) (nb : b < p14) (nh : ph + 1 + 1 < p14) : KeepK (AllK b sv ph (ph + 1) (ph + 1 + 1)) W (W3.setCell ⟨p14, 0, none⟩ v) := by
  refine Chg.setCell (S := fun i => ¬ AllK b sv ph (ph + 1) (ph + 1 + 1) i) (hc.mono fun _ _ h => h.elim) (p := ⟨p14, 0, none⟩) (fun _ hK => ?_) _
  dsimp only at hK
  rcases hK with e | e | e | e | e
  · omega
  · obtain ⟨_, cur, hcur⟩ := row_block h.tab.row e
    rw [h.b14] at hcur
    simp only [Option.some.injEq, Obj.cells.injEq] at hcur
    exact absurd hcur.2.1 (by decide)
  · omega
  · omega
  · omega

set_option maxHeartbeats 8000000 in
set_option maxRecDepth 100000 in
theorem allL_walk (w : World) {v0 : Value} (h0 : ∃ us, NumsAre .i64 w v0 us) (a1 : Int) (w1 : (Lit.int .u64 a1).wf = true) (a2 : Int) (w2 : (Lit.int .u64 a2).wf = true) :
    Calls Try.prog 4 #[v0, .int .u64 a1, .int .u64 a2] w fun e w' => e = .returned (.bool true) ∧ Below w.heap.size w w' := by
  obtain ⟨raw, hraw⟩ := h0
  obtain ⟨oa, cap, rfl, _⟩ := id hraw
  have hc0 : Chg (fun _ => False) w ((w.alloc (.cells #[.int .u64 a1] 23 (0, 0))).alloc (.cells #[.bool false] 4 (0, 0))) := ((Chg.refl _ _).alloc _).alloc _
  have TB := Lib.hid (table_any (hraw.frame hc0 fun _ _ => id))
  have C0 := Lib.hid hc0
  obtain ⟨u0, u1⟩ := u64_of w1
  obtain ⟨u2, u3⟩ := u64_of w2
  clear hraw w1 w2 hc0
  have h1n : 1 ≤ 20 := by omega
  refine (callsIn_wide (n := 20)).1 ?_
  refine callsIn_of_wp_marks Try.func4 rfl trivial ?_ rfl
  simp only [Try.ntmps4, List.size_toArray, List.length_cons, List.length_nil, Nat.reduceAdd, Nat.reduceSub, Array.replicate_succ, Array.replicate_zero, List.push_toArray, List.append_toArray, List.nil_append, List.cons_append]
  refine wpIn_wide.2 ?_
  go_wp2_with (fail)
  refine TB.out.mono ?_
  rintro e wa ⟨b, sv, T, rfl, hh, hm, hb, hsv, hc⟩
  have tn1 := hh.ok.n_pos
  have tn2 : T.n ≤ 32 := by have := hh.ok.n2; unfold Tab.n; omega
  have tm1 := hh.ok.m1
  have CA := Lib.hid hc
  have HH := Lib.hid hh
  have HB := Lib.hid (And.intro hb hsv)
  have b4 := hc.blk' (b := w.heap.size) (o := .cells #[.int .u64 a1] 23 (0, 0)) (by rw [blk_alloc_past _ _ _ (by simp)]; exact blk_alloc_at _ _ _ rfl) id
  have b6 := hc.blk' (b := w.heap.size + 1) (o := .cells #[.bool false] 4 (0, 0)) (blk_alloc_at _ _ _ (by simp)) id
  have c4 := cell_of_blk b4 0
  have f4 := frozen_of_blk b4 0
  have c6 := cell_of_blk b6 0
  have f6 := frozen_of_blk b6 0
  have l6 := blk_lt b6
  have l4 := blk_lt b4
  have B4 := Lib.hid b4
  have B6 := Lib.hid b6
  have f0 : 0 ≤ a1 % 1000000 := Int.emod_nonneg _ (by omega)
  have f1 : a1 % 1000000 < 1000000 := Int.emod_lt_of_pos _ (by omega)
  have g0 : 0 ≤ a2 % (5 * T.major) := Int.emod_nonneg _ (by omega)
  have g1 : a2 % (5 * T.major) < 5 * T.major := Int.emod_lt_of_pos _ (by omega)
  clear hh hb hsv hc b4 b6 TB
  unfold ptrV at *
  go_upto_region 5 with (fail)
  -- the world ahead of 'to'
  obtain ⟨f, hf⟩ : ∃ f, f = a1 % 1000000 := ⟨_, rfl⟩
  obtain ⟨m, hmm⟩ : ∃ m, m = a2 % (5 * T.major) := ⟨_, rfl⟩
  rw [← hf] at f0 f1 ⊢
  rw [← hmm] at g0 g1
  have hb2 : w.heap.size + 2 ≤ b ∧ b < wa.heap.size := ⟨by have := HB.out.1; simp at this; omega, HH.out.facts.1⟩
  have hg2 : ∀ g, sv.ownBlock = some g → w.heap.size + 2 ≤ g := fun g hg => by have := HB.out.2 g hg; simp at this; omega
  obtain ⟨w1, hw1⟩ : ∃ w1, w1 = (wa.setCell ⟨w.heap.size, 0, none⟩ (.int .u64 f)).alloc (.cells #[.pointer (some ⟨b, 0, none⟩)] 24 (0, 0)) := ⟨_, rfl⟩
  obtain ⟨p7, hp7⟩ : ∃ p7, p7 = wa.heap.size := ⟨_, rfl⟩
  have x4 : blk w1 w.heap.size = some (.cells #[.int .u64 f] 23 (0, 0)) := by
    rw [hw1, blk_alloc_past _ _ _ (by simpa using l4), blk_setCell _ _ _ _ _ _ _ B4.out]; rfl
  have x6 : blk w1 (w.heap.size + 1) = some (.cells #[.bool false] 4 (0, 0)) := by
    rw [hw1, blk_alloc_past _ _ _ (by simpa using l6), blk_setCell_ne _ _ _ _ (by simp)]; exact B6.out
  have x7 : blk w1 p7 = some (.cells #[.pointer (some ⟨b, 0, none⟩)] 24 (0, 0)) := by
    rw [hw1, hp7]; exact blk_alloc_at _ _ _ (by simp)
  have hcw1 : Chg (fun i => i = w.heap.size) wa w1 := by rw [hw1]; exact (Chg.setCell (S := fun i => i = w.heap.size) (Chg.refl _ _) (p := ⟨w.heap.size, 0, none⟩) (fun _ => rfl) _).alloc _
  have hT1 : HourIs w1 b sv T := HH.out.frame hcw1 (by omega) fun g hg h => by have := hg2 g hg; omega
  have hc1 : Chg (fun _ => False) w w1 := (C0.out.trans CA.out fun _ _ => id).trans hcw1 fun i hi h => by omega
  rw [← hw1, ← hp7]
  have hp7' : p7 < w1.heap.size := blk_lt x7
  have hp7b : b < p7 ∧ w.heap.size + 1 < p7 := by rw [hp7]; exact ⟨hb2.2, l6⟩
  have X4 := Lib.hid x4
  have X6 := Lib.hid x6
  have X7 := Lib.hid x7
  have HT1 := Lib.hid hT1
  have CW1 := Lib.hid hc1
  have HF := Lib.hid hf
  have HM := Lib.hid hmm
  have HP7 := Lib.hid hp7
  clear hw1 x6 x7 hcw1 hT1 hc1 hf hmm hp7 c4 f4 c6 f6 l6 l4 B4 B6 CA C0 HH HB
  have y4 : w1.cell? ⟨w.heap.size, 0, none⟩ = some (.int .u64 f) := cell_of_blk X4.out 0
  have e1 : IntKind.u64.wrap (5 * T.major) = 5 * T.major := by rw [IntKind.wrap_u64]; omega
  have e2 : a2.tmod (5 * T.major) = m := by rw [Int.tmod_eq_emod_of_nonneg u2]; exact HM.out.symm
  have e3 : IntKind.u64.wrap (f + m) = f + m := by rw [IntKind.wrap_u64]; omega
  have e4 : ¬ (5 * T.major = 0) := by omega
  clear x4
  go_region_held3 (fun w' => w'.cell? ⟨w.heap.size, 0, none⟩ = some (.int .u64 f)) (go_keep) (fail)
  obtain ⟨t, ht⟩ : ∃ t, t = f + m := ⟨_, rfl⟩
  rw [← ht]
  have t0 : f ≤ t := by omega
  have t1 : t ≤ 1100000 := by omega
  obtain ⟨w2, hw2⟩ : ∃ w2, w2 = (w1.alloc (.cells #[.int .u64 t] 23 (0, 0))).drew := ⟨_, rfl⟩
  obtain ⟨p10, hp10⟩ : ∃ p10, p10 = w1.heap.size := ⟨_, rfl⟩
  have x10 : blk w2 p10 = some (.cells #[.int .u64 t] 23 (0, 0)) := by rw [hw2, hp10]; exact blk_alloc_at _ _ _ rfl
  have hc2 : Chg (fun _ => False) w1 w2 := by rw [hw2]; exact ((Chg.refl _ _).alloc _).drew
  rw [← hw2, ← hp10]
  have hp10' : p7 < p10 := by rw [hp10]; exact hp7'
  have X10 := Lib.hid x10
  have C2 := Lib.hid hc2
  clear hw2 hp10 x10 hc2 ht e1 e2 e3 e4 y4
  have bf := HT1.out.ok.nxt_bd (t := f) (by omega) (by omega)
  have bt := HT1.out.ok.nxt_bd (t := t) (by omega) (by omega)
  have bft := HT1.out.ok.nxt_mono (s := f) (t := t) (by omega) t0 (by omega)
  have LF := Lib.hid (list_facts HT1.out.ok (f := f) (t := t) f0 t0 (by omega))
  have N1 := Lib.hid (fun (wy : World) (hy : Chg (fun _ => False) w1 wy) => next_ok (HT1.out.frame0 hy) f ⟨by omega, by omega⟩)
  have N2 := Lib.hid (fun (wy : World) (hy : Chg (fun _ => False) w1 wy) => next_ok (HT1.out.frame0 hy) t ⟨by omega, by omega⟩)
  obtain ⟨fi, hfi⟩ : ∃ fi, fi = T.nxt f := ⟨_, rfl⟩
  obtain ⟨nt, hnt⟩ : ∃ nt, nt = T.nxt t := ⟨_, rfl⟩
  rw [← hfi] at bf bft N1
  rw [← hnt] at bt bft N2
  obtain ⟨bf0, bf1⟩ := bf
  obtain ⟨bt0, bt1⟩ := bt
  have HFI := Lib.hid (And.intro hfi hnt)
  clear hfi hnt
  unfold ptrV at *
  have z7 := kc X7.out C2.out
  have z4 := kc X4.out C2.out
  go_wp2_with (fail)
  refine (N1.out _ C2.out).mono ?_
  rintro e w3 ⟨rfl, hc⟩
  have C3 := Lib.hid (C2.out.trans hc fun _ _ => id)
  have D3 := Lib.hid hc
  clear hc z7 z4
  go_upto_region 7 with (fail)
  obtain ⟨w4, hw4⟩ : ∃ w4, w4 = w3.alloc (.cells #[.int .u64 fi] 23 (0, 0)) := ⟨_, rfl⟩
  obtain ⟨p11, hp11⟩ : ∃ p11, p11 = w3.heap.size := ⟨_, rfl⟩
  have x11 : blk w4 p11 = some (.cells #[.int .u64 fi] 23 (0, 0)) := by rw [hw4, hp11]; exact blk_alloc_at _ _ _ rfl
  have hc4 : Chg (fun _ => False) w1 w4 := by rw [hw4]; exact C3.out.alloc _
  rw [← hw4, ← hp11]
  have C4 := Lib.hid hc4
  have X11 := Lib.hid x11
  have hp11' : p10 < p11 := by rw [hp11]; have := blk_lt X10.out; have := D3.out.size; omega
  have D4 := Lib.hid (show Chg (fun _ => False) w2 w4 by rw [hw4]; exact D3.out.alloc _)
  clear hw4 hp11 x11 hc4
  have X10' := Lib.hid (D4.out.blk' X10.out id)
  have z7 := kc X7.out C4.out
  have z10 := kc X10'.out (Chg.refl _ w4)
  have z11 := kc X11.out (Chg.refl _ w4)
  have e1 : IntKind.u64.wrap (nt - fi) = nt - fi := by rw [IntKind.wrap_u64]; omega
  go_region_held3 (fun w' => w'.cell? ⟨p7, 0, none⟩ = some (.pointer (some ⟨b, 0, none⟩)) ∧ w'.cell? ⟨p10, 0, none⟩ = some (.int .u64 t) ∧ w'.cell? ⟨p11, 0, none⟩ = some (.int .u64 fi)) (first | exact ⟨k7, k10, k11⟩ | go_keep) (first | (go_at_call 10; refine (N2.out _ (C4.out.drew)).mono ?_; rintro e w5 ⟨rfl, hc5⟩; have k7 := cell_frame hc5 (fun _ _ => id) z7; have k10 := cell_frame hc5 (fun _ _ => id) z10; have k11 := cell_frame hc5 (fun _ _ => id) z11; have HC5 := Lib.hid hc5; clear hc5))
  have C5 := Lib.hid ((C4.out.drew).trans HC5.out fun _ _ => id)
  have D5 := Lib.hid ((Chg.refl (fun _ => False) w4).drew.trans HC5.out fun _ _ => id)
  clear z7 z10 z11 k7 k10 k11 e1
  have z7 := kc X7.out C5.out
  have z4 := kc X4.out C5.out
  have z10 := kc X10'.out D5.out
  go_wp2_with (fail)
  refine (all_ok b f t _).mono ?_
  rintro e w6 ⟨rfl, hw6⟩
  obtain ⟨ph, hph⟩ : ∃ ph, ph = w5.heap.size := ⟨_, rfl⟩
  rw [← hph]
  have xh : blk w6 ph = some (.cells #[ptrV b] 24 (0, 0)) := by rw [hw6, hph, blk_alloc_past _ _ _ (by simp; omega), blk_alloc_past _ _ _ (by simp)]; exact blk_alloc_at _ _ _ rfl
  have xf : blk w6 (ph + 1) = some (.cells #[.int .u64 f] 23 (0, 0)) := by rw [hw6, hph, blk_alloc_past _ _ _ (by simp)]; exact blk_alloc_at _ _ _ (by simp)
  have xt : blk w6 (ph + 1 + 1) = some (.cells #[.int .u64 t] 23 (0, 0)) := by rw [hw6, hph]; exact blk_alloc_at _ _ _ (by simp)
  have hph' : p11 < ph := by rw [hph]; have := blk_lt (D5.out.blk' X11.out id); exact this
  have C6 := Lib.hid (show Chg (fun _ => False) w1 w6 by rw [hw6]; exact ((C5.out.alloc _).alloc _).alloc _)
  have D6 := Lib.hid (show Chg (fun _ => False) w4 w6 by rw [hw6]; exact ((D5.out.alloc _).alloc _).alloc _)
  have XH := Lib.hid xh
  have XF := Lib.hid xf
  have XT := Lib.hid xt
  have lh := blk_lt xt
  clear hw6 hph xh xf xt z7 z4 z10
  unfold ptrV at *
  go_wp2_with (fail)
  obtain ⟨w7, hw7⟩ : ∃ w7, w7 = w6.alloc (.cells #[.int .u64 0] 23 (0, 0)) := ⟨_, rfl⟩
  obtain ⟨p14, hp14⟩ : ∃ p14, p14 = w6.heap.size := ⟨_, rfl⟩
  have x14 : blk w7 p14 = some (.cells #[.int .u64 0] 23 (0, 0)) := by rw [hw7, hp14]; exact blk_alloc_at _ _ _ rfl
  have hp14' : ph + 1 + 1 < p14 := by rw [hp14]; exact lh
  have C7 := Lib.hid (show Chg (fun _ => False) w1 w7 by rw [hw7]; exact C6.out.alloc _)
  have D7 := Lib.hid (show Chg (fun _ => False) w4 w7 by rw [hw7]; exact D6.out.alloc _)
  have E7 := Lib.hid (show Chg (fun _ => False) w6 w7 by rw [hw7]; exact (Chg.refl _ _).alloc _)
  rw [← hw7, ← hp14]
  have HP14 := Lib.hid hp14
  have h14s : p14 < w7.heap.size := blk_lt x14
  clear hw7 hp14
  have hsz : w.heap.size ≤ w7.heap.size := Nat.le_trans CW1.out.size C7.out.size
  have hLI : LI w w.heap.size (w.heap.size + 1) p7 p10 p11 p14 b sv T f t fi [] w7 := ⟨C7.out.blk' X4.out id, C7.out.blk' X6.out id, C7.out.blk' X7.out id, D7.out.blk' X10'.out id, D7.out.blk' X11.out id, x14, HT1.out.frame0 C7.out, CW1.out.trans C7.out fun _ _ => id, by intro i x h; simp at h⟩
  have hst := all_stops 19 (by omega) b sv T f t ⟨by omega, by omega⟩ ⟨by omega, by omega⟩ ph (ph + 1) (ph + 1 + 1) w7 hLI.tab (kc XH.out E7.out) (kc XF.out E7.out) (kc XT.out E7.out)
  have hN : (T.listU f t).length ≤ 1100000 := by rw [T.listU_len]; have := LF.out.1; rw [← HFI.out.1, ← HFI.out.2] at this; omega
  have hK : ∀ i, AllK b sv ph (ph + 1) (ph + 1 + 1) i → i < w7.heap.size := by
    have := blk_lt x14
    intro i hi
    rcases hi with rfl | hi | rfl | rfl | rfl
    · exact hLI.tab.facts.1
    · obtain ⟨_, cur, hcur⟩ := row_block hLI.tab.row hi; exact blk_lt hcur
    · omega
    · omega
    · omega
  refine (wpIn_wide (n := 20)).1 ?_
  refine wpIn_rangeFunc_ownH rfl (by omega) (gf := 27) (lb := #[ptrV (ph + 1), ptrV (ph + 1 + 1), ptrV ph]) rfl trivial (fun _ _ => rfl) hst keepK_t (keepK_b hK) (Below.refl _ _) (fun _ => rfl)
    (LI w w.heap.size (w.heap.size + 1) p7 p10 p11 p14 b sv T f t fi) (fun c pre W => c = .ret ∧ ¬ AllGood T f t pre) (LI.own hsz) (fun c s A C row hs hg hr => hs) hLI
    (fun x a' W => ∃ Bx, p14 < Bx ∧ blk W Bx = some (.cells #[.int .i64 (T.win x.1).c, .int .u64 (T.sta x.1), .int .u64 (T.win x.1).n] 36 (0, 0)) ∧ a' = { tmps := ((((?a : Act).tmps.setIfInBounds 55 (.int .u64 x.1)).setIfInBounds 56 (.agg #[.int .i64 (T.win x.1).c, .int .u64 (T.sta x.1), .int .u64 (T.win x.1).n])).setIfInBounds 15 (.int .u64 x.1)).setIfInBounds 16 (.pointer (some ⟨Bx, 0, none⟩)), defers := [] })
    (fun x a' s A C row hs hg hr => by obtain ⟨Bx, h1, h2, h3⟩ := hs; exact ⟨Bx, h1, (Chg.of_grown hg).blk' h2 (not_row hr h2), h3⟩)
    ?assign ?body ?done ?stop
  case assign =>
    rintro l pre x W K hI hK'
    unfold Tab.enc
    gi_wp2
    exact hK' _ _ (keepsFrom_of_chg ((Chg.refl _ _).alloc _)) ((Chg.refl _ _).alloc _) ((LI.own hsz).alloc _ hI) ⟨W.heap.size, blk_lt hI.b14, blk_alloc_at _ _ _ rfl, by rw [HP14.out]; rfl⟩
  case body =>
    rintro l pre x a' W hl ⟨r, hr⟩ hI ⟨Bx, hBx, hbx, rfl⟩ hlt
    have ST := Lib.hid (start_ok hI.tab x.1 x.2)
    have OW := Lib.hid (fun (wy : World) (hy : Chg (fun _ => False) W wy) => owner_ok (hI.tab.frame0 hy) x.1 x.2)
    have HI := Lib.hid hI
    have HBX := Lib.hid hbx
    obtain ⟨x, hx0, hx1⟩ := x
    dsimp only at ST OW HBX ⊢
    obtain ⟨s1, hs1⟩ : ∃ s1, s1 = T.sta x := ⟨_, rfl⟩
    obtain ⟨s2, hs2⟩ : ∃ s2, s2 = T.sta x := ⟨_, rfl⟩
    obtain ⟨c1, hc1⟩ : ∃ c1, c1 = (T.win x).c := ⟨_, rfl⟩
    obtain ⟨c2, hc2⟩ : ∃ c2, c2 = (T.win x).c := ⟨_, rfl⟩
    have es : (s1 != s2) = false := by rw [hs1, hs2]; simp
    have ec : (c1 != c2) = false := by rw [hc1, hc2]; simp
    rw [← hs1, ← hc1] at HBX ⊢
    rw [← hs2] at ST
    rw [← hc2] at OW
    have HS := Lib.hid (And.intro hs1 hs2)
    have hs12 : s1 = s2 := by rw [hs1, hs2]
    have HS12 := Lib.hid hs12
    clear hs1 hs2 hc1 hc2 hs12
    have i7 := kc hI.b7 (Chg.refl _ W)
    clear hI hbx
    unfold ptrV at *
    simp only [List.setIfInBounds_toArray, List.set_cons_zero, List.set_cons_succ]
    rw [← HP14.out]
    gi_wp2_with (fail)
    refine ⟨trivial, CallsIn.mono (CallsIn.inRound l (callsIn_wide.2 ST.out)) ?_⟩
    rintro e w2' ⟨rfl, hc⟩
    have HC2 := Lib.hid hc
    have j7 := cell_frame hc (fun _ _ => id) i7
    clear hc i7
    gi_wp2_with (fail)
    refine ⟨trivial, CallsIn.mono (CallsIn.inRound l (callsIn_wide.2 (OW.out _ HC2.out))) ?_⟩
    rintro e w3' ⟨rfl, hc⟩
    have HC3 := Lib.hid (HC2.out.trans hc fun _ _ => id)
    clear hc j7
    have q4 := kc HI.out.b4 HC3.out
    have q6 := kc HI.out.b6 HC3.out
    have r6 := frozen_of_blk (HC3.out.blk' HI.out.b6 id) 0
    have q10 := kc HI.out.b10 HC3.out
    have q11 := kc HI.out.b11 HC3.out
    have q14 := kc HI.out.b14 HC3.out
    have r14 := frozen_of_blk (HC3.out.blk' HI.out.b14 id) 0
    have hbx := HC3.out.blk' HBX.out id
    have qb0 := cell_of_blk hbx 0
    have qb1 := cell_of_blk hbx 1
    have qb2 := cell_of_blk hbx 2
    clear hbx
    have pl : (pre.length : Int) ≤ 1100000 := by omega
    have snocGood : (x = fi + pre.length ∧ f ≤ s2 ∧ s2 < t) → AllGood T f t (pre ++ [⟨x, hx0, hx1⟩]) := fun ⟨g1, g2, g3⟩ i y hy => by
      by_cases hi : i < pre.length
      · rw [List.getElem?_append_left hi] at hy
        exact HI.out.good i y hy
      · rw [List.getElem?_append_right (by omega)] at hy
        obtain ⟨hh, he⟩ := List.getElem?_eq_some_iff.1 hy
        have hi0 : i = pre.length := by simp at hh; omega
        subst hi0
        simp at he
        subst he
        exact ⟨by rw [← HFI.out.1]; exact g1, by rw [← HS.out.2]; exact g2, by rw [← HS.out.2]; exact g3⟩
    have badSnoc : ¬ (x = fi + pre.length ∧ f ≤ s2 ∧ s2 < t) → ¬ AllGood T f t (pre ++ [⟨x, hx0, hx1⟩]) := fun hn hg => hn (by
      obtain ⟨g1, g2, g3⟩ := hg pre.length ⟨x, hx0, hx1⟩ (by simp)
      exact ⟨by rw [HFI.out.1]; exact g1, by rw [HS.out.2]; exact g2, by rw [HS.out.2]; exact g3⟩)
    have SG := Lib.hid snocGood
    have BG := Lib.hid badSnoc
    clear snocGood badSnoc
    by_cases g1 : x = fi + pre.length
    · by_cases g2 : f ≤ s2
      · by_cases g3 : s2 < t
        · have e1 : (x != fi + pre.length) = false := by rw [g1]; simp
          have G := Lib.hid (SG.out ⟨g1, g2, g3⟩)
          clear g1
          gi_wp2
          exact ⟨(keepsFrom_of_chg HC3.out).trans ((KeepsOthers.setCell _ _ _).from _), HI.out.keep HC3.out (by omega) (by omega), HI.out.bump HC3.out (by omega) (by omega) (by omega) (by omega) (by omega) (by omega) (by omega) G.out⟩
        · have e1 : (x != fi + pre.length) = false := by rw [g1]; simp
          have G := Lib.hid (BG.out fun h => g3 h.2.2)
          clear g1
          gi_wp2
          exact ⟨(keepsFrom_of_chg HC3.out).trans ((KeepsOthers.setCell _ _ _).from _), rfl, G.out⟩
      · have e1 : (x != fi + pre.length) = false := by rw [g1]; simp
        have G := Lib.hid (BG.out fun h => g2 h.2.1)
        clear g1
        gi_wp2
        exact ⟨(keepsFrom_of_chg HC3.out).trans ((KeepsOthers.setCell _ _ _).from _), rfl, G.out⟩
    · have e1 : (x != fi + pre.length) = true := by simp [g1]
      have G := Lib.hid (BG.out fun h => g1 h.1)
      clear g1
      gi_wp2
      exact ⟨(keepsFrom_of_chg HC3.out).trans ((KeepsOthers.setCell _ _ _).from _), rfl, G.out⟩
  case stop =>
    rintro D c pre W _ hp ⟨_, hb⟩ _
    refine absurd (fun i x hx => ?_) hb
    obtain ⟨rest, hr⟩ := hp
    have h1 : (T.listU f t)[i]? = some x := by rw [← hr, List.getElem?_append_left (List.getElem?_eq_some_iff.1 hx).1]; exact hx
    unfold Tab.listU at h1
    rw [List.getElem?_map] at h1
    cases h2 : (T.list f t)[i]? with
    | none => rw [h2] at h1; cases h1
    | some y =>
      rw [h2] at h1
      have h3 := LF.out.2 i y h2
      have hy : U64 y := by
        obtain ⟨g1, _, _⟩ := h3
        have hl := (List.getElem?_eq_some_iff.1 h2).1
        have hl2 := LF.out.1
        rw [← HFI.out.1, ← HFI.out.2] at hl2
        rw [← HFI.out.1] at g1
        exact ⟨by omega, by omega⟩
      simp only [Option.map_some, Option.some.injEq] at h1
      rw [← h1, toU_val hy]
      exact h3
  case done =>
    rintro D xs W hD rfl hI hK'
    have hlen : ((T.listU f t).length : Int) = nt - fi := by rw [T.listU_len, LF.out.1, HFI.out.1, HFI.out.2]
    have HLEN := Lib.hid hlen
    have HI := Lib.hid hI
    have HD := Lib.hid hK'
    have OF := Lib.hid (fun (wy : World) (hy : Chg (fun _ => False) W wy) (c : Int) => Of_ok (hI.tab.frame0 hy) c)
    have OW := Lib.hid (fun (wy : World) (hy : Chg (fun _ => False) W wy) (k : Int) hk => owner_ok (hI.tab.frame0 hy) k hk)
    have OI := Lib.hid (fun (c : Int) (j : Int) (hj : j ∈ ofIdx c 0 T.l) => of_owner hI.tab.ok hj)
    have B1 := Lib.hid (below_one hI.tab.ok)
    have B9 := Lib.hid (below_nine hI.tab.ok)
    have n32 : T.l.length ≤ 32 := hI.tab.ok.n2
    clear hlen hI hK' X4 X6 X7 X10 X10' X11 XH XF XT C2 C3 C4 C5 C6 C7 D3 D4 D5 D6 D7 E7 N1 N2 hst x14 hLI
    unfold ptrV at *
    dsimp only
    go_wp2_with (fail)
    go_loopw [19, 20] (fun s19 s20 wr => ∃ c : Nat, s19 = .int .i64 (below T c) ∧ s20 = .int .i64 c ∧ 1 ≤ c ∧ c ≤ 9 ∧ Chg (fun _ => False) W wr) (fun _ s20 _ => 9 - (intOf s20).toNat)
    case atStart => exact ⟨1, by rw [show ((1 : Nat) : Int) = 1 from rfl, B1.out]; rfl, rfl, by omega, by omega, Chg.refl _ _⟩
    case round =>
      obtain ⟨c, rfl, rfl, c1, c9, hch⟩ := hrel
      have HCr := Lib.hid hch
      have z7 := kc HI.out.b7 hch
      have bl := below_le T c
      clear hch
      unfold ptrV at *
      by_cases q : c ≤ 8
      · have q' : (c : Int) ≤ 8 := by omega
        go_wp2_with (fail)
        refine (OF.out _ HCr.out _).mono ?_
        rintro e w8 ⟨v, rfl, hrow, hc8⟩
        obtain ⟨ov, cv, rfl, hcv1, hcv2, hz1, hz2⟩ := row_form hrow
        clear hz1 hz2
        have HC8 := Lib.hid (HCr.out.trans hc8 fun _ _ => id)
        have hstep := below_step T c
        have hol := ofIdx_len c 0 T.l
        have OIc := Lib.hid (fun (j : Int) (hj : j ∈ ofIdx c 0 T.l) => OI.out c j hj)
        have HROW := Lib.hid hrow
        unfold maxLen at hcv2
        obtain ⟨li, hli⟩ : ∃ li, li = ofIdx c 0 T.l := ⟨_, rfl⟩
        rw [← hli] at OIc hstep hol hcv1 HROW ⊢
        have HSTEP := Lib.hid hstep
        clear hc8 hrow z7 hli hstep
        go_upto_block 4 with (fail)
        go_cut [19] from 99 to 114 (fun s19 wq => s19 = .int .i64 (below T c) ∧ Chg (fun _ => False) W wq)
        case first =>
          go_wp2_with (fail)
          go_loopw [22] (fun s22 wr => ∃ i : Nat, s22 = .int .i64 i ∧ i ≤ li.length ∧ Chg (fun _ => False) w8 wr) (fun s22 _ => li.length - (intOf s22).toNat)
          case atStart => exact ⟨0, rfl, by omega, Chg.refl _ _⟩
          case round =>
            obtain ⟨i, rfl, hil, hch⟩ := hrel
            have HC9 := Lib.hid hch
            by_cases q2 : i < li.length
            · have hx := List.getElem?_eq_getElem q2
              have ho := OIc.out _ (List.getElem_mem q2)
              obtain ⟨g, cap', cur, hv, _, _, _, _, _, hat⟩ := row_at HROW.out (by omega)
              simp only [Value.slice.injEq] at hv
              obtain ⟨rfl, _, rfl⟩ := hv
              have hcell := hat i (.int .i64 li[i]) (by unfold ints; rw [List.getElem?_map, hx]; rfl)
              generalize li[i] = j at *
              obtain ⟨j0, j1, j2⟩ := ho
              have z7 := kc HI.out.b7 (HC8.out.trans hch fun _ _ => id)
              have zl := cell_frame hch (fun _ _ => id) hcell
              have ow := OW.out _ (HC8.out.trans (hch.trans (Chg.refl _ _).drew fun _ _ => id) fun _ _ => id) j ⟨j0, by omega⟩
              rw [j2] at ow
              have EQ1 := Lib.hid (show IntKind.u64.wrap j = j by rw [IntKind.wrap_u64]; omega)
              have OJ := Lib.hid (fun (k : Int) (hk : k = j) => (by subst hk; exact ow : Calls Try.prog 11 #[ptrV b, .int .u64 k] wr.drew fun e w' => e = .returned (.int .i64 c) ∧ Chg (fun _ => False) wr.drew w'))
              have i0 : (0 : Int) ≤ (i : Int) := by omega
              have i1 : (i : Int) < (li.length : Int) := by omega
              obtain ⟨cc, hcc⟩ : ∃ cc : Int, cc = (c : Int) := ⟨_, rfl⟩
              have ecc : (cc != (c : Int)) = false := by rw [hcc]; simp
              rw [← hcc] at OJ
              clear hx hat hcell hch j2 ow hcc
              unfold ptrV at *
              go_upto_region 28 with (fail)
              go_region_held3 (fun w' => w'.cell? ⟨p7, 0, none⟩ = some (.pointer (some ⟨b, 0, none⟩)) ∧ w'.cell? ⟨g, i, none⟩ = some (.int .i64 j)) (first | exact ⟨k7, kl⟩ | go_keep) (first | (go_at_call 11; refine (OJ.out _ (by first | rfl | exact EQ1.out)).mono ?_; rintro e w10 ⟨rfl, hc10⟩; have k7 := cell_frame hc10 (fun _ _ => id) z7; have kl := cell_frame hc10 (fun _ _ => id) zl; have HC10 := Lib.hid hc10; clear hc10))
              go_wp2
              go_roundw
              case rel => exact ⟨i + 1, by go_num, by omega, HC9.out.trans ((Chg.refl _ _).drew.trans HC10.out fun _ _ => id) fun _ _ => id⟩
              case measure => simp [intOf]; omega
            · have q3 : ¬ ((i : Int) < (li.length : Int)) := by omega
              clear hch
              go_wp2
              go_meet
              case rel => exact ⟨rfl, HC8.out.trans HC9.out fun _ _ => id⟩
        case rest =>
          obtain ⟨rfl, hcr⟩ := hcut
          have HC9 := Lib.hid hcr
          clear hcr
          go_wp2
          go_roundw
          case rel => exact ⟨c + 1, by rw [show ((c + 1 : Nat) : Int) = (c : Int) + 1 by omega, HSTEP.out]; go_num, by go_num, by omega, by omega, HC9.out⟩
          case measure => simp [intOf]; omega
      · have hc : c = 9 := by omega
        subst hc
        have z14 := kc HI.out.b14 HCr.out
        have z6 := kc HI.out.b6 HCr.out
        have y6 := frozen_of_blk (HCr.out.blk' HI.out.b6 id) 0
        have e1 : (((T.listU f t).length : Int) == nt - fi) = true := by rw [HLEN.out]; simp
        have e2 : ((below T 9 : Int) == T.n) = true := by
          rw [B9.out]
          unfold Tab.n
          simp
        have HD2 := Lib.hid (HCr.out.block D (Array.getElem?_eq_some_iff.1 HD.out).1 id |>.trans HD.out)
        clear z7 B1
        have E2 := Lib.hid e2
        have hcw : Chg (fun _ => False) w (wr.setCell ⟨w.heap.size + 1, 0, none⟩ (.bool (below T 9 == T.n))) := (HI.out.chg.trans HCr.out fun _ _ => id).setCell (fun hh => by dsimp only at hh; omega) _
        have HCW := Lib.hid hcw
        have hD2 : w.heap.size + 1 < D := by omega
        have hd3 : (wr.setCell ⟨w.heap.size + 1, 0, none⟩ (.bool (below T 9 == T.n))).heap[D]? = some (.deferred (some [])) := (Below.heap_setCell _ _ _ _ (by dsimp only; omega)).trans HD2.out
        have HD3 := Lib.hid hd3
        have hr6 : blk (wr.setCell ⟨w.heap.size + 1, 0, none⟩ (.bool (below T 9 == T.n))) (w.heap.size + 1) = some (.cells #[.bool true] 4 (0, 0)) := by
          rw [blk_setCell _ _ _ _ _ _ _ (HCr.out.blk' HI.out.b6 id), e2]; rfl
        have HR6 := Lib.hid hr6
        clear hcw hd3 hr6 e2
        go_wp2
        refine ⟨by simp, .inl ⟨_, _, rfl, run_takeDeferred HD3.out, ?_⟩⟩
        have g := grownBy_putObj' (wr.setCell ⟨w.heap.size + 1, 0, none⟩ (.bool (below T 9 == T.n))) D (.deferred none)
        have c6 : ((wr.setCell ⟨w.heap.size + 1, 0, none⟩ (.bool (below T 9 == T.n))).putObj D (.deferred none)).cell? ⟨w.heap.size + 1, 0, none⟩ = some (.bool true) := cell_of_blk ((Chg.of_grown g).blk' HR6.out (fun e => by cases e; omega)) 0
        refine ⟨.bool true, ?_, rfl, ?_⟩
        · simp [results, Try.results4, go_sem]
          rw [c6]
        · exact (HCW.out.trans (Chg.of_grown g) fun i hi e => by cases e; omega).below (Nat.le_refl _) fun _ _ => id
end Go.Proofs.Ytkeoaeeneenkaaa
