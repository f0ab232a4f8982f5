/- Writers: how one lies in memory; contracts of fail, room. No condition. -/
import Derived.Test.YtfihpiommicdbaaDoorWirB
import Derived.Deep.RegionLaw
namespace Go.Proofs.YtfihpiommicdbaaDoor
open Go.RowKit Go.Cl
open Go.Maps (Keyed)
open Go.ChangeMaps (setBlock)
set_option linter.unusedVariables false
set_option linter.unusedSimpArgs false
attribute [local go_sem] lt_add_one' blk_alloc_past blk_alloc_at blk_drew blk_setCell_ne blk_setBlock_ne blk_setBlock_eq cell_setBlock_ne frozen_setBlock_ne size_setBlock

abbrev ptrV (b : Nat) : Value := .pointer (some ⟨b, 0, none⟩)
abbrev u8s (xs : List Int) : List Value := xs.map (Value.int .u8)
abbrev Bytes (xs : List Int) : Prop := ∀ b ∈ xs, 0 ≤ b ∧ b ≤ 255

/-- What a writer has. -/
structure WS where
  lim : Int
  xs : List Int
  op : List Int
  bad : Int
def WS.len (s : WS) : Int := s.xs.length
def WS.fail (s : WS) (e : Int) : WS := if s.bad = 0 then { s with bad := e } else s
def WS.room (s : WS) (n : Int) : WS := if s.bad = 0 ∧ s.lim - s.xs.length < n then { s with bad := 12 } else s
def WS.roomB (s : WS) (n : Int) : Bool := decide (s.bad = 0) && decide (n ≤ s.lim - s.xs.length)
/-- Bytes are written. -/
def WS.raw (s : WS) (ys : List Int) : WS := if s.roomB ys.length = true then { s with xs := s.xs ++ ys } else s.room ys.length

structure WFine (s : WS) : Prop where
  l0 : 0 ≤ s.lim
  l1 : s.lim ≤ 67108864
  few : (s.xs.length : Int) ≤ s.lim
  byte : Bytes s.xs
  places : ∀ p ∈ s.op, 0 ≤ p ∧ p + 4 ≤ s.xs.length
  nodup : s.op.Nodup

def opV (p : Int) : Value × Value := (.int .i64 p, .bool true)

/-- A writer's three blocks: the struct, the map, the row of bytes. -/
structure WrIs (w : World) (base b m : Nat) (v : Value) (s : WS) : Prop where
  st : blk w b = some (.cells #[.int .i64 s.lim, v, .map (some m), .int .i64 s.bad] 93 (0, 0))
  row : w.ownsRow base 5 1 v s.xs.length (u8s s.xs)
  mp : MapIs Tryd.prog 3 w m (s.op.map opV)
  fine : WFine s
  nb : base ≤ b
  nm : base ≤ m
def WFoot (b m : Nat) (v : Value) (i : Nat) : Prop := i = b ∨ i = m ∨ some i = v.ownBlock

theorem WrIs.ne {w : World} {base b m : Nat} {v : Value} {s : WS} (h : WrIs w base b m v s) : b ≠ m ∧ some b ≠ v.ownBlock ∧ some m ≠ v.ownBlock := by
  refine ⟨fun e => ?_, fun e => ?_, fun e => ?_⟩
  · subst e
    obtain ⟨es, clock, hb, _⟩ := h.mp
    have := h.st
    simp only [blk] at this
    rw [hb] at this
    cases this
  · obtain ⟨_, cur, hc⟩ := row_block h.row e.symm
    rw [h.st] at hc
    simp only [Option.some.injEq, Obj.cells.injEq] at hc
    exact absurd hc.2.1 (by decide)
  · obtain ⟨_, cur, hc⟩ := row_block h.row e.symm
    obtain ⟨es, clock, hb, _⟩ := h.mp
    simp only [blk] at hc
    rw [hb] at hc
    cases hc

theorem WrIs.frame {S : Nat → Prop} {w w' : World} {base b m : Nat} {v : Value} {s : WS} (h : WrIs w base b m v s) (hc : Chg S w w') (hs : ∀ i, WFoot b m v i → ¬ S i) : WrIs w' base b m v s :=
  ⟨hc.blk' h.st (hs b (.inl rfl)), row_frame h.row hc fun g hg => hs g (.inr (.inr hg.symm)), h.mp.frame hc (hs m (.inr (.inl rfl))), h.fine, h.nb, h.nm⟩

theorem WrIs.foot {w : World} {base b m : Nat} {v : Value} {s : WS} (h : WrIs w base b m v s) {i : Nat} (hi : WFoot b m v i) : base ≤ i ∧ i < w.heap.size := by
  rcases hi with rfl | rfl | hi
  · exact ⟨h.nb, blk_lt h.st⟩
  · exact ⟨h.nm, h.mp.lt⟩
  · obtain ⟨hb, cur, hc⟩ := row_block h.row hi.symm
    exact ⟨hb, blk_lt hc⟩

/-- What a step of a writer leaves. -/
def WGoes (w w' : World) (base b m : Nat) (v : Value) (s' : WS) : Prop :=
  ∃ v', WrIs w' base b m v' s' ∧ Chg (WFoot b m v) w w' ∧ ∀ i, WFoot b m v' i → WFoot b m v i ∨ w.heap.size ≤ i

theorem WrIs.stays {w w' : World} {base b m : Nat} {v : Value} {s : WS} (h : WrIs w base b m v s) (hc : Chg (fun _ => False) w w') : WGoes w w' base b m v s :=
  ⟨v, h.frame hc fun _ _ => id, hc.mono fun _ _ h => h.elim, fun i hi => .inl hi⟩

theorem WGoes.trans {w w1 w2 : World} {base b m : Nat} {v : Value} {s1 s2 : WS} (h1 : WGoes w w1 base b m v s1) (h2 : ∀ v1, WrIs w1 base b m v1 s1 → WGoes w1 w2 base b m v1 s2) : WGoes w w2 base b m v s2 := by
  obtain ⟨v1, a1, a2, a3⟩ := h1
  obtain ⟨v2, b1, b2, b3⟩ := h2 v1 a1
  refine ⟨v2, b1, a2.step b2 (fun _ _ h => h) fun i hi h => ?_, fun i hi => ?_⟩
  · rcases a3 i h with h | h
    · exact h
    · omega
  · rcases b3 i hi with h | h
    · exact a3 i h
    · exact .inr (Nat.le_trans a2.size h)

theorem WrIs.facts {w : World} {base b m : Nat} {v : Value} {s : WS} (h : WrIs w base b m v s) :
    b < w.heap.size ∧ w.cell? ⟨b, 0, none⟩ = some (.int .i64 s.lim) ∧ w.cell? ⟨b, 1, none⟩ = some v ∧ w.cell? ⟨b, 2, none⟩ = some (.map (some m)) ∧ w.cell? ⟨b, 3, none⟩ = some (.int .i64 s.bad) ∧ w.frozen? ⟨b, 1, none⟩ = false ∧ w.frozen? ⟨b, 3, none⟩ = false :=
  ⟨blk_lt h.st, cell_of_blk h.st 0, cell_of_blk h.st 1, cell_of_blk h.st 2, cell_of_blk h.st 3, frozen_of_blk h.st 1, frozen_of_blk h.st 3⟩

/-- The mark of what is wrong is set. -/
theorem WrIs.setBad {w : World} {base b m : Nat} {v : Value} {s : WS} (h : WrIs w base b m v s) (e : Int) : WGoes w (w.setCell ⟨b, 3, none⟩ (.int .i64 e)) base b m v { s with bad := e } := by
  obtain ⟨n1, n2, n3⟩ := h.ne
  have hc : Chg (fun i => i = b) w (w.setCell ⟨b, 3, none⟩ (.int .i64 e)) := Chg.setCell (S := fun i => i = b) (Chg.refl _ _) (p := ⟨b, 3, none⟩) (fun _ => rfl) _
  refine ⟨v, ⟨?_, row_frame h.row hc fun g hg e => n2 (by rw [← e, hg]), h.mp.frame hc fun e => n1 e.symm, ⟨h.fine.l0, h.fine.l1, h.fine.few, h.fine.byte, h.fine.places, h.fine.nodup⟩, h.nb, h.nm⟩, hc.mono fun i _ h => .inl h, fun i hi => .inl hi⟩
  rw [blk_setCell_eq, h.st]
  simp [objSet]

theorem wfail_ok {w : World} {base b m : Nat} {v : Value} {s : WS} (h : WrIs w base b m v s) (e : Int) :
    Calls Tryd.prog 82 #[ptrV b, .int .i64 e] w fun r w' => r = .returned (.tuple #[]) ∧ WGoes w w' base b m v (s.fail e) := by
  obtain ⟨hb, f0, f1, f2, f3, z1, z3⟩ := h.facts
  have H := Lib.hid h
  have HB := Lib.hid (h.setBad e)
  clear h f0 f1 f2
  by_cases hbad : s.bad = 0
  · have hb1 : (s.bad == 0) = true := by simp [hbad]
    have HE := Lib.hid (show s.fail e = { s with bad := e } by unfold WS.fail; rw [if_pos hbad])
    clear hbad
    unfold ptrV
    go_enter Tryd.func82, Tryd.ntmps82
    go_wp2
    go_end0
    exact ⟨rfl, by rw [HE.out]; exact HB.out⟩
  · have hb1 : (s.bad == 0) = false := by simp [hbad]
    have HE := Lib.hid (show s.fail e = s by unfold WS.fail; rw [if_neg hbad])
    clear hbad
    unfold ptrV
    go_enter Tryd.func82, Tryd.ntmps82
    go_wp2
    go_end0
    exact ⟨rfl, by rw [HE.out]; exact H.out.stays (Chg.refl _ _)⟩

set_option maxHeartbeats 1000000 in
set_option maxRecDepth 100000 in
theorem wroom_ok {w : World} {base b m : Nat} {v : Value} {s : WS} (h : WrIs w base b m v s) (n : Int) (hn0 : 0 ≤ n) (hn1 : n ≤ 281474976710656) :
    Calls Tryd.prog 81 #[ptrV b, .int .i64 n] w fun r w' => r = .returned (.bool (s.roomB n)) ∧ WGoes w w' base b m v (s.room n) := by
  obtain ⟨hb, f0, f1, f2, f3, z1, z3⟩ := h.facts
  obtain ⟨o1, c1, hv, _⟩ := row_form h.row
  have H := Lib.hid h
  have g0 := h.fine.l0
  have g1 := h.fine.l1
  have g2 := h.fine.few
  rw [hv] at f1
  have HV := Lib.hid hv
  clear h f2 z1 hv
  by_cases hbad : s.bad = 0
  · have hb1 : (s.bad == 0) = true := by simp [hbad]
    by_cases hr : n ≤ s.lim - s.xs.length
    · have HE := Lib.hid (show s.room n = s by unfold WS.room; rw [if_neg (by omega)])
      have HE2 := Lib.hid (show s.roomB n = true by unfold WS.roomB; rw [decide_eq_true hbad, decide_eq_true hr]; rfl)
      have hr1 : ¬ (s.lim - (s.xs.length : Int) < n) := by omega
      have hr2 : decide (s.lim - (s.xs.length : Int) < n) = false := by simp; omega
      clear hbad z3
      unfold ptrV
      go_enter Tryd.func81, Tryd.ntmps81
      go_wp2
      go_quiet (fail)
      go_wp2
      go_ret
      exact ⟨by rw [HE2.out]; rfl, by rw [HE.out]; exact H.out.stays ((Chg.refl _ _).drewN _)⟩
    · have HE := Lib.hid (show s.room n = { s with bad := 12 } by unfold WS.room; rw [if_pos ⟨hbad, by omega⟩])
      have HE2 := Lib.hid (show s.roomB n = false by unfold WS.roomB; rw [decide_eq_false hr]; simp)
      have HF := Lib.hid (show s.fail 12 = { s with bad := 12 } by unfold WS.fail; rw [if_pos hbad])
      have hr1 : s.lim - (s.xs.length : Int) < n := by omega
      have hr2 : decide (s.lim - (s.xs.length : Int) < n) = true := by simp; omega
      clear hbad z3
      unfold ptrV
      go_enter Tryd.func81, Tryd.ntmps81
      go_wp2
      go_quiet (fail)
      have HC := Lib.hid (fun (wy : World) (hy : Chg (fun _ => False) w wy) => wfail_ok (H.out.frame hy fun _ _ => id) 12)
      go_wp2_with fail
      refine (HC.out _ ((Chg.refl _ _).drewN _)).mono ?_
      rintro e w1 ⟨rfl, hg⟩
      rw [HF.out] at hg
      obtain ⟨v1, hw1, hc1, hf1⟩ := hg
      obtain ⟨hb', _, _, _, f3', _⟩ := hw1.facts
      have HG := Lib.hid (show WGoes w w1 base b m v { s with bad := 12 } from ⟨v1, hw1, ((Chg.refl _ w).drewN _).trans hc1 (fun _ _ h => h), hf1⟩)
      clear hw1 hc1 hf1
      dsimp only at f3'
      go_wp2
      go_ret
      exact ⟨by rw [HE2.out]; rfl, by rw [HE.out]; exact HG.out⟩
  · have hb1 : (s.bad == 0) = false := by simp [hbad]
    have HE := Lib.hid (show s.room n = s by unfold WS.room; rw [if_neg (fun h => hbad h.1)])
    have HE2 := Lib.hid (show s.roomB n = false by unfold WS.roomB; rw [decide_eq_false hbad]; rfl)
    clear hbad z3
    unfold ptrV
    go_enter Tryd.func81, Tryd.ntmps81
    go_wp2
    go_quiet (fail)
    go_wp2
    go_ret
    exact ⟨by rw [HE2.out]; rfl, by rw [HE.out]; exact H.out.stays ((Chg.refl _ _).drewN _)⟩
end Go.Proofs.YtfihpiommicdbaaDoor
