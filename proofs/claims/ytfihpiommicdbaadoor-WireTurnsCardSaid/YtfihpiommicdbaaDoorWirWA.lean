/- The document's writer: how one lies in memory; contracts of number, NewWriter, Raw, Number. No condition. -/
import Derived.Test.YtfihpiommicdbaaDoorWirQ
namespace Go.Proofs.YtfihpiommicdbaaDoor
open Go.RowKit Go.Cl
set_option linter.unusedVariables false
set_option linter.unusedSimpArgs false
attribute [local go_sem] lt_add_one' blk_alloc_past blk_alloc_at blk_drew blk_setCell_ne

abbrev i64s (xs : List Int) : List Value := xs.map (Value.int .i64)
/-- The document's writer of the same state: the struct, the bytes, the places that are open. -/
structure VwIs (w : World) (base b : Nat) (v o : Value) (s : WS) : Prop where
  st : blk w b = some (.cells #[.int .i64 s.lim, v, o, .int .i64 s.bad] 95 (0, 0))
  row : w.ownsRow base 5 1 v s.xs.length (u8s s.xs)
  orow : w.ownsRow base 3 1 o s.op.length (i64s s.op.reverse)
  fine : WFine s
  nb : base ≤ b
def VwFoot (b : Nat) (v o : Value) (i : Nat) : Prop := i = b ∨ some i = v.ownBlock ∨ some i = o.ownBlock

theorem VwIs.ne {w : World} {base b : Nat} {v o : Value} {s : WS} (h : VwIs w base b v o s) : some b ≠ v.ownBlock ∧ some b ≠ o.ownBlock ∧ ∀ g, some g = v.ownBlock → some g ≠ o.ownBlock := by
  refine ⟨fun e => ?_, fun e => ?_, fun g e1 e2 => ?_⟩
  · obtain ⟨_, cur, hc⟩ := row_block h.row e.symm
    rw [h.st] at hc
    simp only [Option.some.injEq, Obj.cells.injEq] at hc
    exact absurd hc.2.1 (by decide)
  · obtain ⟨_, cur, hc⟩ := row_block h.orow e.symm
    rw [h.st] at hc
    simp only [Option.some.injEq, Obj.cells.injEq] at hc
    exact absurd hc.2.1 (by decide)
  · obtain ⟨_, cur, hc⟩ := row_block h.row e1.symm
    obtain ⟨_, cur2, hc2⟩ := row_block h.orow e2.symm
    rw [hc] at hc2
    simp only [Option.some.injEq, Obj.cells.injEq] at hc2
    exact absurd hc2.2.1 (by decide)
theorem VwIs.frame {S : Nat → Prop} {w w' : World} {base b : Nat} {v o : Value} {s : WS} (h : VwIs w base b v o s) (hc : Chg S w w') (hs : ∀ i, VwFoot b v o i → ¬ S i) : VwIs w' base b v o s :=
  ⟨hc.blk' h.st (hs b (.inl rfl)), row_frame h.row hc fun g hg => hs g (.inr (.inl hg.symm)), row_frame h.orow hc fun g hg => hs g (.inr (.inr hg.symm)), h.fine, h.nb⟩
theorem VwIs.foot {w : World} {base b : Nat} {v o : Value} {s : WS} (h : VwIs w base b v o s) {i : Nat} (hi : VwFoot b v o i) : base ≤ i ∧ i < w.heap.size := by
  rcases hi with rfl | hi | hi
  · exact ⟨h.nb, blk_lt h.st⟩
  · obtain ⟨hb, cur, hc⟩ := row_block h.row hi.symm
    exact ⟨hb, blk_lt hc⟩
  · obtain ⟨hb, cur, hc⟩ := row_block h.orow hi.symm
    exact ⟨hb, blk_lt hc⟩

/-- What a step of it leaves. -/
def VwGoes (w w' : World) (base b : Nat) (v o : Value) (s' : WS) : Prop :=
  ∃ v' o', VwIs w' base b v' o' s' ∧ Chg (VwFoot b v o) w w' ∧ ∀ i, VwFoot b v' o' i → VwFoot b v o i ∨ w.heap.size ≤ i
theorem VwIs.stays {w w' : World} {base b : Nat} {v o : Value} {s : WS} (h : VwIs w base b v o s) (hc : Chg (fun _ => False) w w') : VwGoes w w' base b v o s :=
  ⟨v, o, h.frame hc fun _ _ => id, hc.mono fun _ _ h => h.elim, fun i hi => .inl hi⟩
theorem VwGoes.after {w w1 w2 : World} {base b : Nat} {v o v1 o1 : Value} {s2 : WS} (a2 : Chg (VwFoot b v o) w w1) (a3 : ∀ i, VwFoot b v1 o1 i → VwFoot b v o i ∨ w.heap.size ≤ i) (h2 : VwGoes w1 w2 base b v1 o1 s2) : VwGoes w w2 base b v o s2 := by
  obtain ⟨v2, o2, b1, b2, b3⟩ := h2
  refine ⟨v2, o2, b1, a2.step b2 (fun _ _ h => h) fun i hi h => ?_, fun i hi => ?_⟩
  · rcases a3 i h with h | h
    · exact h
    · omega
  · rcases b3 i hi with h | h
    · exact a3 i h
    · exact .inr (Nat.le_trans a2.size h)
/-- Behind something that was made new. -/
theorem VwGoes.behind {w w1 w2 : World} {base b : Nat} {v o : Value} {s2 : WS} (hc : Chg (fun _ => False) w w1) (h2 : VwGoes w1 w2 base b v o s2) : VwGoes w w2 base b v o s2 := VwGoes.after (hc.mono fun _ _ h => h.elim) (fun i hi => .inl hi) h2

theorem VwIs.facts {w : World} {base b : Nat} {v o : Value} {s : WS} (h : VwIs w base b v o s) :
    b < w.heap.size ∧ w.cell? ⟨b, 0, none⟩ = some (.int .i64 s.lim) ∧ w.cell? ⟨b, 1, none⟩ = some v ∧ w.cell? ⟨b, 2, none⟩ = some o ∧ w.cell? ⟨b, 3, none⟩ = some (.int .i64 s.bad) ∧ w.frozen? ⟨b, 1, none⟩ = false ∧ w.frozen? ⟨b, 2, none⟩ = false ∧ w.frozen? ⟨b, 3, none⟩ = false :=
  ⟨blk_lt h.st, cell_of_blk h.st 0, cell_of_blk h.st 1, cell_of_blk h.st 2, cell_of_blk h.st 3, frozen_of_blk h.st 1, frozen_of_blk h.st 2, frozen_of_blk h.st 3⟩

/-- The mark of what is wrong is set. -/
theorem VwIs.setBad {w : World} {base b : Nat} {v o : Value} {s : WS} (h : VwIs w base b v o s) (e : Int) : VwGoes w (w.setCell ⟨b, 3, none⟩ (.int .i64 e)) base b v o { s with bad := e } := by
  obtain ⟨n1, n2, n3⟩ := h.ne
  have hc : Chg (fun i => i = b) w (w.setCell ⟨b, 3, none⟩ (.int .i64 e)) := Chg.setCell (S := fun i => i = b) (Chg.refl _ _) (p := ⟨b, 3, none⟩) (fun _ => rfl) _
  refine ⟨v, o, ⟨?_, row_frame h.row hc fun g hg e => n1 (by rw [← e, hg]), row_frame h.orow hc fun g hg e => n2 (by rw [← e, hg]), ⟨h.fine.l0, h.fine.l1, h.fine.few, h.fine.byte, h.fine.places, h.fine.nodup⟩, h.nb⟩, hc.mono fun i _ h => .inl h, fun i hi => .inl hi⟩
  rw [blk_setCell_eq, h.st]
  simp [objSet]
/-- The list of bytes is another one. -/
theorem VwIs.setB {w w1 : World} {base b : Nat} {v o v' : Value} {s : WS} {ys : List Int} (h : VwIs w base b v o s) (hc : Chg (fun i => some i = v.ownBlock) w w1) (hown : w1.ownsRow base 5 1 v' ys.length (u8s ys)) (hg : v'.ownBlock = v.ownBlock ∨ ∃ g, v'.ownBlock = some g ∧ w.heap.size ≤ g) (hy : Bytes ys) (hl : (ys.length : Int) ≤ s.lim) (hp : s.xs.length ≤ ys.length) : VwGoes w (w1.setCell ⟨b, 1, none⟩ v') base b v o { s with xs := ys } := by
  obtain ⟨n1, n2, n3⟩ := h.ne
  have hb1 : blk w1 b = _ := hc.blk' h.st n1
  have hc2 : Chg (fun i => i = b) w1 (w1.setCell ⟨b, 1, none⟩ v') := Chg.setCell (S := fun i => i = b) (Chg.refl _ _) (p := ⟨b, 1, none⟩) (fun _ => rfl) _
  have ho1 : w1.ownsRow base 3 1 o s.op.length (i64s s.op.reverse) := row_frame h.orow hc fun g hg e => n3 g e hg.symm
  have n4 : some b ≠ v'.ownBlock := fun e => by
    rcases hg with hg | ⟨g, hg, hgl⟩
    · exact n1 (e.trans hg)
    · rw [hg] at e
      cases e
      have := blk_lt h.st
      omega
  refine ⟨v', o, ⟨?_, row_frame hown hc2 fun g hg e => n4 (by rw [← e, hg]), row_frame ho1 hc2 fun g hg e => n2 (by rw [← e, hg]), ⟨h.fine.l0, h.fine.l1, hl, hy, fun p hp1 => ?_, h.fine.nodup⟩, h.nb⟩, (hc.mono fun i _ h => .inr (.inl h)).trans hc2 fun i _ h => .inl h, fun i hi => ?_⟩
  · rw [blk_setCell_eq, hb1]
    simp [objSet]
  · have := h.fine.places p hp1
    dsimp only
    omega
  · rcases hi with rfl | hi | hi
    · exact .inl (.inl rfl)
    · rcases hg with hg | ⟨g, hg, hgl⟩
      · exact .inl (.inr (.inl (hi.trans hg)))
      · rw [hg] at hi
        cases hi
        exact .inr hgl
    · exact .inl (.inr (.inr hi))

set_option maxHeartbeats 2000000 in
set_option maxRecDepth 100000 in
theorem vnew_ok {w : World} (lim : Int) (h0 : 0 ≤ lim) (h1 : lim ≤ 67108864) :
    Calls Tryd.prog 17 #[.int .i64 lim] w fun r w' => ∃ b, r = .returned (.tuple #[.pointer (some ⟨b, 0, none⟩), .int .i64 0]) ∧ VwIs w' w.heap.size b (.slice none 0 0) (.slice none 0 0) ⟨lim, [], [], 0⟩ ∧ Chg (fun _ => False) w w' := by
  have k0 : ¬ lim < 0 := by omega
  have k1 : ¬ (67108864 : Int) < lim := by omega
  have HL := Lib.hid (And.intro h0 h1)
  clear h0 h1
  go_enter Tryd.func17, Tryd.ntmps17
  go_wp2
  go_ret2
  exact ⟨_, rfl, ⟨blk_alloc_at _ _ _ rfl, nil_row _ _ _, nil_row _ _ _, ⟨HL.out.1, HL.out.2, by simpa using HL.out.1, (fun b hb => absurd hb (by simp)), (fun p hp => absurd hp (by simp)), List.nodup_nil⟩, Nat.le_refl _⟩, (Chg.refl _ _).alloc _⟩
theorem vnew_no {w : World} (lim : Int) (h : lim < 0 ∨ 67108864 < lim) :
    Calls Tryd.prog 17 #[.int .i64 lim] w fun r w' => r = .returned (.tuple #[.pointer none, .int .i64 10]) ∧ w = w' := by
  rcases h with h | h
  · go_enter Tryd.func17, Tryd.ntmps17
    go_wp2
    go_ret2
    exact ⟨rfl, rfl⟩
  · have h0 : ¬ lim < 0 := by omega
    go_enter Tryd.func17, Tryd.ntmps17
    go_wp2
    go_ret2
    exact ⟨rfl, rfl⟩

set_option maxHeartbeats 2000000 in
set_option maxRecDepth 100000 in
theorem number_ok {w : World} (n : Int) (hn0 : 0 ≤ n) (hn1 : n ≤ 18446744073709551615) (m : Nat) (hm : m ≤ 8) :
    Calls Tryd.prog 83 #[.int .u64 n, .int .i64 m] w fun r w' => ∃ v, r = .returned v ∧ w'.ownsRow w.heap.size 5 1 v m (u8s (leB n m)) ∧ Chg (fun _ => False) w w' := by
  obtain ⟨i0, hi, hz0, hz1, hz2⟩ := info5z
  have HN := Lib.hid (And.intro hn0 hn1)
  have HM := Lib.hid hm
  have HR0 := Lib.hid (nil_row w w.heap.size 5)
  clear hn0 hn1 hm
  go_enter Tryd.func83, Tryd.ntmps83
  go_wp2
  go_loopg [0, 5, 6] m (fun g s0 s5 s6 wr => ∃ k : Nat, k + g = m ∧ s6 = .int .i64 k ∧ s0 = .int .u64 (n / 256 ^ k) ∧ wr.ownsRow w.heap.size 5 1 s5 k (u8s (leB n k)) ∧ Chg (fun _ => False) w wr)
  case atStart => exact ⟨0, by omega, rfl, by simp, HR0.out, Chg.refl _ _⟩
  case round =>
    obtain ⟨k, hk, rfl, rfl, hrow, hc⟩ := hrel
    have HK := Lib.hid hk
    have HR := Lib.hid hrow
    have HC := Lib.hid hc
    obtain ⟨o1, c1, rfl, -⟩ := row_form hrow
    clear hrow hc
    by_cases hlt : k < m
    · have hlt2 : (k : Int) < (m : Int) := by omega
      have HLT := Lib.hid hlt
      obtain ⟨q, hq⟩ : ∃ q, q = n / 256 ^ k := ⟨_, rfl⟩
      have hp : (0 : Int) < 256 ^ k := Int.pow_pos (by decide)
      have hq0 : 0 ≤ q := by rw [hq]; exact Int.ediv_nonneg HN.out.1 (Int.le_of_lt hp)
      have hq1 : q ≤ n := by rw [hq]; exact Int.ediv_le_self _ HN.out.1
      have hn1 := HN.out.2
      have hq2 : q / 256 = n / 256 ^ (k + 1) := by rw [hq, Int.ediv_ediv_of_nonneg (Int.le_of_lt hp), Int.pow_succ]
      have ht1 : q.tmod 256 = q % 256 := Int.tmod_eq_emod_of_nonneg hq0
      have ht2 : q.tdiv 256 = q / 256 := Int.tdiv_eq_ediv_of_nonneg hq0
      have ht3 : IntKind.u8.wrap (q % 256) = q % 256 := by rw [IntKind.wrap_u8]; omega
      have ht4 : IntKind.u64.wrap (q % 256) = q % 256 := by rw [IntKind.wrap_u64] <;> omega
      have ht5 : IntKind.u64.wrap (q / 256) = q / 256 := by rw [IntKind.wrap_u64] <;> omega
      have HQ := Lib.hid hq
      have HQ2 := Lib.hid hq2
      have hm8 : m ≤ 8 := HM.out
      rw [← hq]
      clear hk hq hq2 hp hlt
      go_wp2_with (at_builtin; refine wpList_app rfl _ _ 24 rfl w.heap.size 5 i0 (.int .u8 0) 1 1 Tryd.underlying24 hi hz0 hz1 hz2 rfl (by decide) (.slice o1 k c1) k (u8s (leB n k)) (by rfl) (row_frame HR.out ((Chg.refl (fun _ => False) wr).alloc _) fun _ _ => id) _ 1 1 [.int .u8 (q % 256)] (by rfl) (SrcIs.some (by rfl) (by simp [Value.oneCell']) (World.news_of_block (heap_alloc_new _ _))) (fun h => by cases h) (by have := HLT.out; have := HM.out; unfold maxLen; omega) (by have := HLT.out; have := HM.out; omega) (by have := HC.out.size; simp; omega) ?_; intro v2 w3 hown hgrow hlie; have HO := Lib.hid hown; have HC3 := Lib.hid (Chg.of_grown hgrow); clear hown hgrow hlie)
      have E1 := Lib.hid (show w3.ownsRow w.heap.size 5 1 v2 (k + 1) (u8s (leB n (k + 1))) by
        have := HO.out
        rw [HQ.out] at this
        rw [leB_succ, u8s, List.map_append]
        exact this)
      have E2 := Lib.hid (show Chg (fun _ => False) w w3 from ((HC.out.trans ((Chg.refl (fun _ => False) wr).alloc _) fun _ _ => id).step HC3.out (fun _ _ h => h) fun i hi h => by
        obtain ⟨hb, _⟩ := row_block HR.out h.symm
        omega))
      rw [HQ2.out]
      go_wp2
      go_roundg (m - (k + 1))
      case measure => have := HLT.out; have := HK.out; omega
      case rel => exact ⟨k + 1, by have := HLT.out; omega, by go_num, rfl, E1.out, E2.out⟩
    · have hke : k = m := by omega
      subst hke
      clear hk hlt
      go_wp2
      go_ret
      exact ⟨_, rfl, HR.out, HC.out⟩

set_option maxHeartbeats 2000000 in
set_option maxRecDepth 100000 in
theorem vwraw_ok {w : World} {base b : Nat} {v o : Value} {s : WS} (h : VwIs w base b v o s) (hbase : base ≤ w.heap.size) {oa : Option Addr} {c : Nat} {ys : List Int} (hy : BytesIs w (.slice oa ys.length c) ys) (hl : ys.length ≤ 281474976710656) :
    Calls Tryd.prog 45 #[.pointer (some ⟨b, 0, none⟩), .slice oa ys.length c] w fun r w' => r = .returned (.tuple #[]) ∧ VwGoes w w' base b v o (s.raw ys) := by
  obtain ⟨i0, hi, hz0, hz1, hz2⟩ := info5z
  obtain ⟨hb, f0, f1, f2, f3, z1, z2, z3⟩ := h.facts
  obtain ⟨o1, c1, hv, _⟩ := row_form h.row
  have H := Lib.hid h
  have HY := Lib.hid hy
  have HBASE := Lib.hid hbase
  have HS := Lib.hid hy.src
  have HBY := Lib.hid hy.byte
  have HC0 := Lib.hid (show oa = none → c = 0 by obtain ⟨_, _, hv, _, _, h3, _⟩ := hy; simp only [Value.slice.injEq, true_and] at hv; obtain ⟨rfl, rfl⟩ := hv; exact h3)
  have HNB := Lib.hid h.ne.1
  have g0 := h.fine.l0
  have g1 := h.fine.l1
  have g2 := h.fine.few
  subst hv
  clear h hy hbase f2 z2
  by_cases hbad : s.bad = 0
  · have hb1 : (s.bad != 0) = false := by simp [hbad]
    by_cases hr : (ys.length : Int) ≤ s.lim - s.xs.length
    · have hr1 : ¬ (s.lim - (s.xs.length : Int) < (ys.length : Int)) := by omega
      have hr2 : decide (s.lim - (s.xs.length : Int) < (ys.length : Int)) = false := by simp; omega
      have HRR := Lib.hid hr
      have HL1 := Lib.hid g1
      have HE := Lib.hid (show s.raw ys = { s with xs := s.xs ++ ys } by unfold WS.raw WS.roomB; rw [decide_eq_true hbad, decide_eq_true hr]; rfl)
      clear hbad hr z3
      go_enter Tryd.func45, Tryd.ntmps45
      go_wp2
      go_quiet (fail)
      obtain ⟨wq, hwq⟩ : ∃ wq, wq = w.drewN nq := ⟨_, rfl⟩
      have HCQ := Lib.hid (show Chg (fun _ => False) w wq by rw [hwq]; exact (Chg.refl _ _).drewN _)
      rw [← hwq]
      have hq := H.out.frame HCQ.out fun _ _ => id
      obtain ⟨hbq, -, f1, -, -, z1, -, -⟩ := hq.facts
      have HRow := Lib.hid hq.row
      have HSQ := Lib.hid (HS.out.frame HCQ.out fun _ _ => id)
      have HBQ := Lib.hid (Nat.le_trans HBASE.out HCQ.out.size)
      have HWQ := Lib.hid hq
      clear hwq hq f0
      go_wp2_with (at_builtin; refine wpList_app rfl _ _ 24 rfl base 5 i0 (.int .u8 0) 1 1 Tryd.underlying24 hi hz0 hz1 hz2 rfl (by decide) (.slice o1 s.xs.length c1) s.xs.length (u8s s.xs) (by rfl) HRow.out oa ys.length c _ (by rfl) HSQ.out HC0.out (by have := HL1.out; have := HRR.out; unfold maxLen; omega) (by have := HL1.out; have := HRR.out; omega) HBQ.out ?_; intro v2 w2 hown hgrow hlie; have f1d := (hgrow.cell_far ⟨b, 1, none⟩ hbq HNB.out).trans f1; have z1d := (hgrow.frozen_far ⟨b, 1, none⟩ hbq HNB.out).trans z1; obtain ⟨ov, cv, rfl, hv1, hv2, _⟩ := row_form hown; have HO := Lib.hid hown; have HG := Lib.hid hgrow; have HLie := Lib.hid hlie; clear hown hgrow hlie)
      go_end0
      refine ⟨rfl, ?_⟩
      rw [HE.out]
      exact VwGoes.behind HCQ.out (HWQ.out.setB (ys := s.xs ++ ys) (Chg.of_grown HG.out) (by rw [List.length_append, u8s, List.map_append]; exact HO.out) (HLie.out.imp id fun h => ⟨_, h, Nat.le_refl _⟩) (fun x hx => (List.mem_append.1 hx).elim (HWQ.out.fine.byte x) (HBY.out x)) (by rw [List.length_append]; have := HRR.out; omega) (by rw [List.length_append]; omega))
    · have hr1 : s.lim - (s.xs.length : Int) < (ys.length : Int) := by omega
      have hr2 : decide (s.lim - (s.xs.length : Int) < (ys.length : Int)) = true := by simp; omega
      have HE := Lib.hid (show s.raw ys = { s with bad := 12 } by unfold WS.raw WS.roomB WS.room; rw [decide_eq_true hbad, decide_eq_false hr, if_neg (by simp), if_pos ⟨hbad, by omega⟩])
      clear hbad hr
      go_enter Tryd.func45, Tryd.ntmps45
      go_wp2
      go_quiet (fail)
      obtain ⟨wq, hwq⟩ : ∃ wq, wq = w.drewN nq := ⟨_, rfl⟩
      have HCQ := Lib.hid (show Chg (fun _ => False) w wq by rw [hwq]; exact (Chg.refl _ _).drewN _)
      rw [← hwq]
      have hq := H.out.frame HCQ.out fun _ _ => id
      obtain ⟨hbq, -, f1, -, f3q, z1, -, z3q⟩ := hq.facts
      have HWQ := Lib.hid hq
      clear hwq hq f0 z3 f3 f1
      go_wp2
      refine bodyPost_ret (results_none rfl _ _ _) rfl ?_
      refine ⟨rfl, ?_⟩
      rw [HE.out]
      exact VwGoes.behind HCQ.out (HWQ.out.setBad 12)
  · have hb1 : (s.bad != 0) = true := by simp [hbad]
    have HE := Lib.hid (show s.raw ys = s by unfold WS.raw; rw [roomB_bad hbad, room_bad hbad]; simp)
    clear hbad
    go_enter Tryd.func45, Tryd.ntmps45
    go_wp2
    refine bodyPost_ret (results_none rfl _ _ _) rfl ?_
    exact ⟨rfl, by rw [HE.out]; exact H.out.stays (Chg.refl _ _)⟩

set_option maxHeartbeats 2000000 in
set_option maxRecDepth 100000 in
theorem vwnumber_ok {w : World} {base b : Nat} {v o : Value} {s : WS} (h : VwIs w base b v o s) (hbase : base ≤ w.heap.size) (n : Int) (hn0 : 0 ≤ n) (hn1 : n ≤ 18446744073709551615) (m : Nat) (hm : m ≤ 8) :
    Calls Tryd.prog 52 #[.pointer (some ⟨b, 0, none⟩), .int .u64 n, .int .i64 m] w fun r w' => r = .returned (.tuple #[]) ∧ VwGoes w w' base b v o (s.raw (leB n m)) := by
  have HN := Lib.hid (number_ok (w := w) n hn0 hn1 m hm)
  have H := Lib.hid h
  have HBASE := Lib.hid hbase
  have HM := Lib.hid hm
  clear h hbase hn0 hn1 hm
  go_enter Tryd.func52, Tryd.ntmps52
  go_wp2_with fail
  refine HN.out.mono ?_
  rintro e w1 ⟨v1, rfl, hrow, hc1⟩
  have hby := row_bytes hrow (leB_byte n m)
  obtain ⟨oy, cy, rfl, -⟩ := row_form hrow
  have HR := Lib.hid (vwraw_ok (H.out.frame hc1 fun _ _ => id) (Nat.le_trans HBASE.out hc1.size) (oa := oy) (c := cy) (ys := leB n m) (by rw [leB_len]; exact hby) (by rw [leB_len]; have := HM.out; omega))
  rw [leB_len] at HR
  have HC1 := Lib.hid hc1
  clear hrow hc1 hby HN
  go_wp2_with fail
  refine HR.out.mono ?_
  rintro e w2 ⟨rfl, hg⟩
  have HG := Lib.hid (VwGoes.behind HC1.out hg)
  clear hg HR
  go_wp2
  go_end0
  exact ⟨rfl, HG.out⟩
end Go.Proofs.YtfihpiommicdbaaDoor
