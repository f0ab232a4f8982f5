/- Writers: contracts of NewWriter, Byte, Half, Word, Long, Len, Raw, Done. No condition. -/
import Derived.Test.YtfihpiommicdbaaDoorWirD
import Derived.StillTailTactics
namespace Go.Proofs.YtfihpiommicdbaaDoor
open Go.RowKit Go.Cl
open Go.Maps (Keyed)
open Go.ChangeMaps (setBlock)
set_option linter.unusedVariables false
set_option linter.unusedSimpArgs false
attribute [local go_sem] lt_add_one' blk_alloc_past blk_alloc_at blk_drew blk_setCell_ne blk_setBlock_ne blk_setBlock_eq cell_setBlock_ne frozen_setBlock_ne size_setBlock

theorem placeKeyed : Keyed Tryd.prog 3 := Maps.int_keyed Tryd.underlying3

def WS.zero (n : Int) : WS := ⟨n, [], [], 0⟩

set_option maxRecDepth 100000 in
theorem newW_ok (n : Int) (h0 : 0 ≤ n) (h1 : n ≤ 67108864) (w : World) :
    Calls Tryd.prog 16 #[.int .i64 n] w fun e w' => ∃ b m, e = .returned (.tuple #[ptrV b, .int .i64 0]) ∧ WrIs w' w.heap.size b m (.slice none 0 0) (WS.zero n) ∧ Chg (fun _ => False) w w' := by
  have hmm := @run_makeMap Tryd.prog
  have a1 : ¬ (n < 0) := by omega
  have a2 : ¬ ((67108864 : Int) < n) := by omega
  go_enter Tryd.func16, Tryd.ntmps16
  go_wp2
  go_ret2
  refine ⟨w.heap.size + 1, rfl, ⟨w.heap.size, blk_alloc_at _ _ _ (by simp), nil_row _ _ _, ?_, ⟨h0, h1, by simp [WS.zero]; omega, fun b hb => by simp [WS.zero] at hb, fun p hp => by simp [WS.zero] at hp, by simp [WS.zero]⟩, by omega, Nat.le_refl _⟩, ((Chg.refl _ _).alloc _).alloc _⟩
  exact (MapIs.fresh w _ _).of_block (blk_alloc_past _ _ _ (by simp))

theorem newW_bad (n : Int) (h : n < 0 ∨ 67108864 < n) (w : World) :
    Calls Tryd.prog 16 #[.int .i64 n] w fun e w' => e = .returned (.tuple #[.pointer none, .int .i64 10]) ∧ w = w' := by
  rcases h with h | h
  · go_enter Tryd.func16, Tryd.ntmps16
    go_wp2
    go_ret2
    exact ⟨rfl, rfl⟩
  · have a1 : ¬ (n < 0) := by omega
    go_enter Tryd.func16, Tryd.ntmps16
    go_wp2
    go_ret2
    exact ⟨rfl, rfl⟩

set_option maxRecDepth 100000 in
theorem wword_ok {w : World} {base b m : Nat} {v : Value} {s : WS} (h : WrIs w base b m v s) (hbase : base ≤ w.heap.size) (x : Int) (hx0 : 0 ≤ x) (hx1 : x ≤ 4294967295) :
    Calls Tryd.prog 48 #[ptrV b, .int .u32 x] w fun r w' => r = .returned (.tuple #[]) ∧ WGoes w w' base b m v (s.raw (leB x 4)) := by
  have HP := Lib.hid (put32_ok h hbase x hx0 hx1)
  clear h hbase
  unfold ptrV at *
  go_enter Tryd.func48, Tryd.ntmps48
  go_wp2_with fail
  refine HP.out.mono ?_
  rintro e w1 ⟨rfl, hg⟩
  have HG := Lib.hid hg
  clear hg HP
  go_wp2
  go_end0
  exact ⟨rfl, HG.out⟩
set_option maxRecDepth 100000 in
theorem wbyte_ok {w : World} {base b m : Nat} {v : Value} {s : WS} (h : WrIs w base b m v s) (hbase : base ≤ w.heap.size) (x : Int) (hx0 : 0 ≤ x) (hx1 : x ≤ 255) :
    Calls Tryd.prog 51 #[ptrV b, .int .u8 x] w fun r w' => r = .returned (.tuple #[]) ∧ WGoes w w' base b m v (s.raw (leB x 1)) := by
  have HP := Lib.hid (put8_ok h hbase x hx0 hx1)
  clear h hbase
  unfold ptrV at *
  go_enter Tryd.func51, Tryd.ntmps51
  go_wp2_with fail
  refine HP.out.mono ?_
  rintro e w1 ⟨rfl, hg⟩
  have HG := Lib.hid hg
  clear hg HP
  go_wp2
  go_end0
  exact ⟨rfl, HG.out⟩
set_option maxRecDepth 100000 in
theorem whalf_ok {w : World} {base b m : Nat} {v : Value} {s : WS} (h : WrIs w base b m v s) (hbase : base ≤ w.heap.size) (x : Int) (hx0 : 0 ≤ x) (hx1 : x ≤ 65535) :
    Calls Tryd.prog 53 #[ptrV b, .int .u16 x] w fun r w' => r = .returned (.tuple #[]) ∧ WGoes w w' base b m v (s.raw (leB x 2)) := by
  have HP := Lib.hid (put16_ok h hbase x hx0 hx1)
  clear h hbase
  unfold ptrV at *
  go_enter Tryd.func53, Tryd.ntmps53
  go_wp2_with fail
  refine HP.out.mono ?_
  rintro e w1 ⟨rfl, hg⟩
  have HG := Lib.hid hg
  clear hg HP
  go_wp2
  go_end0
  exact ⟨rfl, HG.out⟩
set_option maxRecDepth 100000 in
theorem wlong_ok {w : World} {base b m : Nat} {v : Value} {s : WS} (h : WrIs w base b m v s) (hbase : base ≤ w.heap.size) (x : Int) (hx0 : 0 ≤ x) (hx1 : x ≤ 18446744073709551615) :
    Calls Tryd.prog 54 #[ptrV b, .int .u64 x] w fun r w' => r = .returned (.tuple #[]) ∧ WGoes w w' base b m v (s.raw (leB x 8)) := by
  have HP := Lib.hid (put64_ok h hbase x hx0 hx1)
  clear h hbase hx1
  unfold ptrV at *
  go_enter Tryd.func54, Tryd.ntmps54
  go_wp2_with fail
  refine HP.out.mono ?_
  rintro e w1 ⟨rfl, hg⟩
  have HG := Lib.hid hg
  clear hg HP
  go_wp2
  go_end0
  exact ⟨rfl, HG.out⟩

theorem wlen_ok {w : World} {base b m : Nat} {v : Value} {s : WS} (h : WrIs w base b m v s) :
    Calls Tryd.prog 59 #[ptrV b] w fun r w' => r = .returned (.int .i64 s.xs.length) ∧ w = w' := by
  obtain ⟨hb, f0, f1, f2, f3, z1, z3⟩ := h.facts
  obtain ⟨o1, c1, rfl, _⟩ := row_form h.row
  clear h f0 f2 f3 z1 z3
  unfold ptrV
  go_enter Tryd.func59, Tryd.ntmps59
  go_wp2
  go_ret
  exact ⟨rfl, rfl⟩

/-- So many bytes more in the row. -/
theorem WrIs.append {w w2 w3 : World} {base b m : Nat} {v v' : Value} {s : WS} {ys : List Int} (h : WrIs w base b m v s) (hc : Chg (fun _ => False) w w2) (hown : w3.ownsRow base 5 1 v' (s.xs.length + ys.length) (u8s s.xs ++ u8s ys)) (hg : w2.grownBy w3 v.ownBlock) (hl : v'.ownBlock = v.ownBlock ∨ v'.ownBlock = some w2.heap.size)
    (hx : Bytes ys) (hr : (s.xs.length : Int) + ys.length ≤ s.lim) : WGoes w (w3.setCell ⟨b, 1, none⟩ v') base b m v { s with xs := s.xs ++ ys } := by
  obtain ⟨n1, n2, n3⟩ := h.ne
  have hb := blk_lt h.st
  have c1 : Chg (fun i => some i = v.ownBlock) w w3 := hc.step (Chg.of_grown hg) (fun _ _ h => h.elim) fun _ _ h => h
  have hst := c1.blk' h.st n2
  have c2 : Chg (fun i => i = b) w3 (w3.setCell ⟨b, 1, none⟩ v') := Chg.setCell (S := fun i => i = b) (Chg.refl _ _) (p := ⟨b, 1, none⟩) (fun _ => rfl) _
  have nb' : v'.ownBlock ≠ some b := fun e => by
    obtain ⟨_, cur, hc⟩ := row_block hown e
    rw [hst] at hc
    simp only [Option.some.injEq, Obj.cells.injEq] at hc
    exact absurd hc.2.1 (by decide)
  refine ⟨v', ⟨?_, ?_, (h.mp.frame c1 n3).frame c2 fun e => n1 e.symm, ⟨h.fine.l0, h.fine.l1, ?_, ?_, ?_, h.fine.nodup⟩, h.nb, h.nm⟩, c1.step c2 (fun _ _ h => .inr (.inr h)) (fun _ _ h => .inl h), fun i hi => ?_⟩
  · rw [blk_setCell_eq, hst]
    simp [objSet]
  · refine row_frame (by simpa using hown) c2 fun g hg e => nb' (by rw [hg, e])
  · simp; omega
  · intro y hy
    rcases List.mem_append.1 hy with hy | hy
    · exact h.fine.byte y hy
    · exact hx y hy
  · intro p hp
    have := h.fine.places p hp
    simp; omega
  · rcases hi with hi | hi | hi
    · exact .inl (.inl hi)
    · exact .inl (.inr (.inl hi))
    · rcases hl with hl | hl
      · exact .inl (.inr (.inr (hi.trans hl)))
      · rw [hl] at hi
        obtain rfl := Option.some.inj hi
        exact .inr hc.size

theorem raw_yes {s : WS} {ys : List Int} (h : s.roomB ys.length = true) : s.raw ys = { s with xs := s.xs ++ ys } ∧ s.room ys.length = s ∧ s.bad = 0 ∧ (s.xs.length : Int) + ys.length ≤ s.lim := by
  have h2 := h
  unfold WS.roomB at h
  simp at h
  exact ⟨by unfold WS.raw; rw [if_pos h2], by unfold WS.room; rw [if_neg (by omega)], h.1, by omega⟩
theorem raw_no {s : WS} {ys : List Int} (h : s.roomB ys.length = false) : s.raw ys = s.room ys.length := by unfold WS.raw; rw [if_neg (by simp [h])]

set_option maxHeartbeats 1000000 in
set_option maxRecDepth 100000 in
theorem wroom_yes {w : World} {base b m : Nat} {v : Value} {s : WS} (h : WrIs w base b m v s) (n : Int) (hn0 : 0 ≤ n) (hn1 : n ≤ 281474976710656) (hr : s.roomB n = true) :
    Calls Tryd.prog 81 #[ptrV b, .int .i64 n] w fun r w' => r = .returned (.bool true) ∧ Chg (fun _ => False) w w' := by
  obtain ⟨hb, f0, f1, f2, f3, z1, z3⟩ := h.facts
  obtain ⟨o1, c1, hv, _⟩ := row_form h.row
  have g0 := h.fine.l0
  have g1 := h.fine.l1
  have g2 := h.fine.few
  rw [hv] at f1
  unfold WS.roomB at hr
  simp at hr
  have hb1 : (s.bad == 0) = true := by simp [hr.1]
  have hr1 : ¬ (s.lim - (s.xs.length : Int) < n) := by omega
  have hr2 : decide (s.lim - (s.xs.length : Int) < n) = false := by simp; omega
  clear h f2 z1 hv hr z3
  unfold ptrV
  go_enter Tryd.func81, Tryd.ntmps81
  go_wp2
  go_quiet (fail)
  go_wp2
  go_ret
  exact ⟨rfl, (Chg.refl _ _).drewN _⟩

set_option maxHeartbeats 1000000 in
set_option maxRecDepth 100000 in
theorem wraw_ok {w : World} {base b m : Nat} {v : Value} {s : WS} (h : WrIs w base b m v s) (hbase : base ≤ w.heap.size) {oa : Option Addr} {c : Nat} {ys : List Int} (hy : BytesIs w (.slice oa ys.length c) ys) (hl : ys.length ≤ 281474976710656) :
    Calls Tryd.prog 44 #[ptrV b, .slice oa ys.length c] w fun r w' => r = .returned (.tuple #[]) ∧ WGoes w w' base b m v (s.raw ys) := by
  have HR := Lib.hid (wroom_ok h ys.length (by omega) (by omega))
  have H := Lib.hid h
  have HY := Lib.hid hy
  have HBASE := Lib.hid hbase
  obtain ⟨i0, hi, hz0, hz1, hz2⟩ := info5z
  have HB := Lib.hid hy.byte
  have HC0 := Lib.hid (show oa = none → c = 0 by obtain ⟨_, _, hv, _, _, h3, _⟩ := hy; simp only [Value.slice.injEq, true_and] at hv; obtain ⟨rfl, rfl⟩ := hv; exact h3)
  clear h hbase hy
  cases hr : s.roomB ys.length with
  | true =>
    obtain ⟨e1, e2, e3, e4⟩ := raw_yes hr
    have HE := Lib.hid e1
    have H4 := Lib.hid e4
    have HY1 := Lib.hid (wroom_yes H.out ys.length (by omega) (by omega) hr)
    clear HR
    clear e1 e2 e3 e4 hr
    unfold ptrV at *
    go_enter Tryd.func44, Tryd.ntmps44
    go_wp2_with fail
    refine HY1.out.mono ?_
    rintro e w1 ⟨rfl, hc1⟩
    have hw1 := H.out.frame hc1 fun _ _ => id
    obtain ⟨hb, _, f1, _, _, z1, _⟩ := hw1.facts
    obtain ⟨o1, c1, hv, _⟩ := row_form hw1.row
    have HC1 := Lib.hid hc1
    have HW := Lib.hid hw1
    have HS := Lib.hid ((HY.out.frame hc1 fun _ _ => id).src)
    have HRow := Lib.hid hw1.row
    have HBS := Lib.hid (Nat.le_trans HBASE.out hc1.size)
    have HL1 := Lib.hid hw1.fine.l1
    have HNB := Lib.hid (show some b ≠ v.ownBlock from hw1.ne.2.1)
    subst hv
    clear hc1 hw1
    go_wp2_with (at_builtin; refine wpList_app rfl _ _ 24 rfl base 5 i0 (.int .u8 0) 1 1 Tryd.underlying24 hi hz0 hz1 hz2 rfl (by decide) (.slice o1 s.xs.length c1) s.xs.length (u8s s.xs) (by rfl) HRow.out oa ys.length c _ (by rfl) HS.out HC0.out (by have := HL1.out; have := H4.out; unfold maxLen; omega) (by have := HL1.out; have := H4.out; omega) HBS.out ?_; intro v2 w2 hown hgrow hlie; have f1d := (hgrow.cell_far ⟨b, 1, none⟩ hb HNB.out).trans f1; have z1d := (hgrow.frozen_far ⟨b, 1, none⟩ hb HNB.out).trans z1; obtain ⟨ov, cv, rfl, hv1, hv2, _⟩ := row_form hown; have HO := Lib.hid hown; have HG := Lib.hid hgrow; have HLie := Lib.hid hlie; clear hown hgrow hlie)
    go_end0
    exact ⟨rfl, by rw [HE.out]; exact WGoes.after (HC1.out.mono fun _ _ h => h.elim) (fun i hi => .inl hi) (HW.out.append (Chg.refl _ _) HO.out HG.out HLie.out HB.out H4.out)⟩
  | false =>
    have HE := Lib.hid (raw_no hr)
    rw [hr] at HR
    clear hr
    unfold ptrV at *
    go_enter Tryd.func44, Tryd.ntmps44
    go_wp2_with fail
    refine HR.out.mono ?_
    rintro e w1 ⟨rfl, hg⟩
    have HG := Lib.hid hg
    clear hg HR HY
    go_wp2
    go_end0
    exact ⟨rfl, by rw [HE.out]; exact HG.out⟩

def WS.done (s : WS) : Int := if s.bad ≠ 0 then s.bad else if s.op ≠ [] then 10 else 0

set_option maxHeartbeats 1000000 in
set_option maxRecDepth 100000 in
theorem wdone_bad {w : World} {base b m : Nat} {v : Value} {s : WS} (h : WrIs w base b m v s) (hd : s.done ≠ 0) :
    Calls Tryd.prog 40 #[ptrV b] w fun r w' => r = .returned (.tuple #[.slice none 0 0, .int .i64 s.done]) ∧ Chg (fun _ => False) w w' := by
  obtain ⟨hb, f0, f1, f2, f3, z1, z3⟩ := h.facts
  have hl := h.mp.run_len Tryd.underlying91 3
  rw [List.length_map] at hl
  clear h z1 z3 f0
  by_cases hbad : s.bad = 0
  · have hb1 : (s.bad != 0) = false := by simp [hbad]
    have ho : s.op ≠ [] := by intro e; apply hd; unfold WS.done; simp [hbad, e]
    have HE := Lib.hid (show s.done = 10 by unfold WS.done; simp [hbad, ho])
    have hop : (0 : Int) < (s.op.length : Int) := by have := List.length_pos_iff.2 ho; omega
    clear hbad ho hd
    unfold ptrV
    go_enter Tryd.func40, Tryd.ntmps40
    go_wp2
    go_ret2
    exact ⟨by rw [HE.out]; rfl, Chg.refl _ _⟩
  · have hb1 : (s.bad != 0) = true := by simp [hbad]
    have HE := Lib.hid (show s.done = s.bad by unfold WS.done; simp [hbad])
    clear hbad hd
    unfold ptrV
    go_enter Tryd.func40, Tryd.ntmps40
    go_wp2
    go_quiet (fail)
    go_wp2
    go_ret2
    exact ⟨by rw [HE.out]; rfl, (Chg.refl _ _).drewN _⟩

set_option maxHeartbeats 1000000 in
set_option maxRecDepth 100000 in
theorem wdone_ok {w : World} {base b m : Nat} {v : Value} {s : WS} (h : WrIs w base b m v s) (hd : s.done = 0) :
    Calls Tryd.prog 40 #[ptrV b] w fun r w' => ∃ v', r = .returned (.tuple #[v', .int .i64 0]) ∧ w'.ownsRow w.heap.size 5 1 v' s.xs.length (u8s s.xs) ∧ Chg (fun _ => False) w w' := by
  obtain ⟨hb, f0, f1, f2, f3, z1, z3⟩ := h.facts
  have hl := h.mp.run_len Tryd.underlying91 3
  rw [List.length_map] at hl
  have hbad : s.bad = 0 := by
    by_cases hh : s.bad = 0
    · exact hh
    · unfold WS.done at hd; simp [hh] at hd
  have hb1 : (s.bad != 0) = false := by simp [hbad]
  have ho : s.op = [] := by
    by_cases hh : s.op = []
    · exact hh
    · unfold WS.done at hd; simp [hh, hbad] at hd
  have hop : ¬ (0 : Int) < (s.op.length : Int) := by simp [ho]
  obtain ⟨o1, c1, rfl, hc1, hc2, hc3, _⟩ := row_form h.row
  have HC0 := Lib.hid (show o1 = none → c1 = 0 from fun e => (hc3 e).2)
  have HS := Lib.hid ((row_bytes h.row h.fine.byte).src)
  obtain ⟨i0, hi, hz0, hz1, hz2⟩ := info5z
  have HN := Lib.hid (nil_row w w.heap.size 5)
  have HL := Lib.hid (And.intro h.fine.few h.fine.l1)
  clear h z1 z3 f0 hbad ho hd hc1 hc2 hc3
  unfold ptrV
  go_enter Tryd.func40, Tryd.ntmps40
  go_wp2_with (at_builtin; refine wpList_app rfl _ _ 24 rfl w.heap.size 5 i0 (.int .u8 0) 1 1 Tryd.underlying24 hi hz0 hz1 hz2 rfl (by decide) (.slice none 0 0) 0 [] (by rfl) HN.out o1 s.xs.length c1 _ (by rfl) HS.out HC0.out (by have := HL.out; unfold maxLen; omega) (by have := HL.out; omega) (Nat.le_refl _) ?_; intro v1 w1 hown hgrow hlie; have HO := Lib.hid hown; have HC := Lib.hid (show Chg (fun _ => False) w w1 from (Chg.of_grown hgrow).mono fun _ _ h => by simp [Value.ownBlock] at h); clear hown hgrow hlie)
  go_ret2
  exact ⟨_, rfl, by have := HO.out; simpa using this, HC.out⟩
end Go.Proofs.YtfihpiommicdbaaDoor
