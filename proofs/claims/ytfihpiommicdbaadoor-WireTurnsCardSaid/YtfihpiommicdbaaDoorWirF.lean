/- Readers: how one lies in memory; contracts of fail, next, NewReader, Err, At, Left, End, Fail. No condition. -/
import Derived.Test.YtfihpiommicdbaaDoorWirB
namespace Go.Proofs.YtfihpiommicdbaaDoor
open Go.RowKit Go.Cl
set_option linter.unusedVariables false
set_option linter.unusedSimpArgs false
attribute [local go_sem] lt_add_one' blk_alloc_past blk_alloc_at blk_drew blk_setCell_ne

/-- What a reader has. -/
structure RS where
  xs : List Int
  pos : Nat
  wh : Int
  bad : Int
def RS.fail (s : RS) (e p : Int) : RS := if s.bad = 0 then { s with bad := e, wh := p } else s
def RS.okB (s : RS) (n : Nat) : Bool := decide (s.bad = 0) && decide (s.pos + n ≤ s.xs.length)
/-- The next bytes are taken. -/
def RS.next (s : RS) (n : Nat) : RS := if s.okB n = true then { s with pos := s.pos + n } else s.fail 11 s.pos
def RS.took (s : RS) (n : Nat) : List Int := if s.okB n = true then (s.xs.drop s.pos).take n else []

structure RdIs (w : World) (base b : Nat) (v : Value) (s : RS) : Prop where
  st : blk w b = some (.cells #[v, .int .i64 s.pos, .int .i64 s.wh, .int .i64 s.bad] 106 (0, 0))
  row : w.ownsRow base 5 1 v s.xs.length (s.xs.map (Value.int .u8))
  byte : ∀ x ∈ s.xs, 0 ≤ x ∧ x ≤ 255
  le : s.pos ≤ s.xs.length
  few : s.xs.length ≤ 140737488355328
  nb : base ≤ b
def RFoot (b : Nat) (v : Value) (i : Nat) : Prop := i = b ∨ some i = v.ownBlock

theorem RdIs.ne {w : World} {base b : Nat} {v : Value} {s : RS} (h : RdIs w base b v s) : some b ≠ v.ownBlock := fun e => by
  obtain ⟨_, cur, hc⟩ := row_block h.row e.symm
  rw [h.st] at hc
  simp only [Option.some.injEq, Obj.cells.injEq] at hc
  exact absurd hc.2.1 (by decide)
theorem RdIs.frame {S : Nat → Prop} {w w' : World} {base b : Nat} {v : Value} {s : RS} (h : RdIs w base b v s) (hc : Chg S w w') (hs : ∀ i, RFoot b v i → ¬ S i) : RdIs w' base b v s :=
  ⟨hc.blk' h.st (hs b (.inl rfl)), row_frame h.row hc fun g hg => hs g (.inr hg.symm), h.byte, h.le, h.few, h.nb⟩
theorem RdIs.foot {w : World} {base b : Nat} {v : Value} {s : RS} (h : RdIs w base b v s) {i : Nat} (hi : RFoot b v i) : base ≤ i ∧ i < w.heap.size := by
  rcases hi with rfl | hi
  · exact ⟨h.nb, blk_lt h.st⟩
  · obtain ⟨hb, cur, hc⟩ := row_block h.row hi.symm
    exact ⟨hb, blk_lt hc⟩

def RGoes (w w' : World) (base b : Nat) (v : Value) (s' : RS) : Prop := RdIs w' base b v s' ∧ Chg (fun i => i = b) w w'
theorem RdIs.stays {w w' : World} {base b : Nat} {v : Value} {s : RS} (h : RdIs w base b v s) (hc : Chg (fun _ => False) w w') : RGoes w w' base b v s := ⟨h.frame hc fun _ _ => id, hc.mono fun _ _ h => h.elim⟩
theorem RGoes.after {w w1 w2 : World} {base b : Nat} {v : Value} {s : RS} (hc : Chg (fun i => i = b) w w1) (h : RGoes w1 w2 base b v s) : RGoes w w2 base b v s := ⟨h.1, hc.trans h.2 fun _ _ h => h⟩

theorem RdIs.facts {w : World} {base b : Nat} {v : Value} {s : RS} (h : RdIs w base b v s) :
    b < w.heap.size ∧ w.cell? ⟨b, 0, none⟩ = some v ∧ w.cell? ⟨b, 1, none⟩ = some (.int .i64 s.pos) ∧ w.cell? ⟨b, 2, none⟩ = some (.int .i64 s.wh) ∧ w.cell? ⟨b, 3, none⟩ = some (.int .i64 s.bad) ∧ w.frozen? ⟨b, 1, none⟩ = false ∧ w.frozen? ⟨b, 2, none⟩ = false ∧ w.frozen? ⟨b, 3, none⟩ = false :=
  ⟨blk_lt h.st, cell_of_blk h.st 0, cell_of_blk h.st 1, cell_of_blk h.st 2, cell_of_blk h.st 3, frozen_of_blk h.st 1, frozen_of_blk h.st 2, frozen_of_blk h.st 3⟩

/-- The struct is written anew. -/
theorem RdIs.put {w w' : World} {base b : Nat} {v : Value} {s s' : RS} (h : RdIs w base b v s) (hc : Chg (fun i => i = b) w w') (hx : s'.xs = s.xs) (hp : s'.pos ≤ s.xs.length)
    (hb : blk w' b = some (.cells #[v, .int .i64 s'.pos, .int .i64 s'.wh, .int .i64 s'.bad] 106 (0, 0))) : RGoes w w' base b v s' :=
  ⟨⟨hb, by rw [hx]; exact row_frame h.row hc fun g hg e => h.ne (by rw [hg, e]), by rw [hx]; exact h.byte, by rw [hx]; exact hp, by rw [hx]; exact h.few, h.nb⟩, hc⟩

theorem rfail_ok {w : World} {base b : Nat} {v : Value} {s : RS} (h : RdIs w base b v s) (e p : Int) :
    Calls Tryd.prog 76 #[.pointer (some ⟨b, 0, none⟩), .int .i64 e, .int .i64 p] w fun r w' => r = .returned (.tuple #[]) ∧ RGoes w w' base b v (s.fail e p) := by
  obtain ⟨hb, f0, f1, f2, f3, z1, z2, z3⟩ := h.facts
  have H := Lib.hid h
  have HB := Lib.hid (show RGoes w ((w.setCell ⟨b, 3, none⟩ (.int .i64 e)).setCell ⟨b, 2, none⟩ (.int .i64 p)) base b v { s with bad := e, wh := p } from h.put (((Chg.refl (fun i => i = b) w).setCell (p := ⟨b, 3, none⟩) (fun _ => rfl) _).setCell (p := ⟨b, 2, none⟩) (fun _ => rfl) _) rfl h.le (by
    rw [blk_setCell_eq, blk_setCell_eq, h.st]
    simp [objSet]))
  clear h f0 f1 z1
  by_cases hbad : s.bad = 0
  · have hb1 : (s.bad == 0) = true := by simp [hbad]
    have HE := Lib.hid (show s.fail e p = { s with bad := e, wh := p } by unfold RS.fail; rw [if_pos hbad])
    clear hbad
    go_enter Tryd.func76, Tryd.ntmps76
    go_wp2
    go_end0
    exact ⟨rfl, by rw [HE.out]; exact HB.out⟩
  · have hb1 : (s.bad == 0) = false := by simp [hbad]
    have HE := Lib.hid (show s.fail e p = s by unfold RS.fail; rw [if_neg hbad])
    clear hbad
    go_enter Tryd.func76, Tryd.ntmps76
    go_wp2
    go_end0
    exact ⟨rfl, by rw [HE.out]; exact H.out.stays (Chg.refl _ _)⟩

def RS.zero (xs : List Int) : RS := ⟨xs, 0, 0, 0⟩

set_option maxHeartbeats 1000000 in
set_option maxRecDepth 100000 in
theorem newR_ok {w : World} {v : Value} {xs : List Int} (h : BytesIs w v xs) (hl : xs.length ≤ 140737488355328) :
    Calls Tryd.prog 23 #[v] w fun r w' => ∃ b v', r = .returned (.pointer (some ⟨b, 0, none⟩)) ∧ RdIs w' w.heap.size b v' (RS.zero xs) ∧ Chg (fun _ => False) w w' := by
  have HB := Lib.hid h.byte
  have HL := Lib.hid hl
  have HX := Lib.hid h
  obtain ⟨o1, c1, rfl, hc1, hc2, hc3, _⟩ := h
  have HC0 := Lib.hid hc3
  have HS := Lib.hid HX.out.src
  obtain ⟨i0, hi, hz0, hz1, hz2⟩ := info5z
  have HN := Lib.hid (nil_row w w.heap.size 5)
  clear hl hc1 hc2 hc3
  go_enter Tryd.func23, Tryd.ntmps23
  go_wp2_with (at_builtin; refine wpList_app rfl _ _ 24 rfl w.heap.size 5 i0 (.int .u8 0) 1 1 Tryd.underlying24 hi hz0 hz1 hz2 rfl (by decide) (.slice none 0 0) 0 [] (by rfl) HN.out o1 xs.length c1 _ (by rfl) HS.out HC0.out (by have := HL.out; unfold maxLen; omega) (by have := HL.out; omega) (Nat.le_refl _) ?_; intro v1 w1 hown hgrow hlie; have HO := Lib.hid (show w1.ownsRow w.heap.size 5 1 v1 xs.length (xs.map (Value.int .u8)) by simpa using hown); have HC := Lib.hid (show Chg (fun _ => False) w w1 from (Chg.of_grown hgrow).mono fun _ _ h => by simp [Value.ownBlock] at h); clear hown hgrow hlie; obtain ⟨ov, cv, rfl, _⟩ := row_form HO.out)
  go_ret
  exact ⟨_, _, rfl, ⟨blk_alloc_at _ _ _ rfl, row_frame HO.out ((Chg.refl (fun _ => False) w1).alloc _) fun _ _ => id, HB.out, by simp [RS.zero], HL.out, HC.out.size⟩, HC.out.alloc _⟩

theorem rat_ok {w : World} {base b : Nat} {v : Value} {s : RS} (h : RdIs w base b v s) :
    Calls Tryd.prog 32 #[.pointer (some ⟨b, 0, none⟩)] w fun r w' => r = .returned (.int .i64 s.pos) ∧ w = w' := by
  obtain ⟨hb, f0, f1, f2, f3, z1, z2, z3⟩ := h.facts
  clear h f0 f2 f3 z1 z2 z3
  go_enter Tryd.func32, Tryd.ntmps32
  go_wp2
  go_ret
  exact ⟨rfl, rfl⟩

def RS.left (s : RS) : Int := if s.bad = 0 then (s.xs.length : Int) - s.pos else 0
set_option maxRecDepth 100000 in
theorem rleft_ok {w : World} {base b : Nat} {v : Value} {s : RS} (h : RdIs w base b v s) :
    Calls Tryd.prog 33 #[.pointer (some ⟨b, 0, none⟩)] w fun r w' => r = .returned (.int .i64 s.left) ∧ Chg (fun _ => False) w w' := by
  obtain ⟨hb, f0, f1, f2, f3, z1, z2, z3⟩ := h.facts
  obtain ⟨o1, c1, rfl, hc1, hc2, hc3, _⟩ := row_form h.row
  have hle := h.le
  have hfew := h.few
  unfold maxLen at hc2
  clear h f2 z1 z2 z3
  by_cases hbad : s.bad = 0
  · have hb1 : (s.bad != 0) = false := by simp [hbad]
    have HE := Lib.hid (show s.left = (s.xs.length : Int) - s.pos by unfold RS.left; rw [if_pos hbad])
    clear hbad
    go_enter Tryd.func33, Tryd.ntmps33
    go_wp2
    have wk : IntKind.i64.wrap ((s.xs.length : Int) - (s.pos : Int)) = (s.xs.length : Int) - (s.pos : Int) := by rw [IntKind.wrap_i64]; omega
    go_quiet (fail)
    go_wp2
    go_ret
    exact ⟨by rw [HE.out]; rfl, (Chg.refl _ _).drewN _⟩
  · have hb1 : (s.bad != 0) = true := by simp [hbad]
    have HE := Lib.hid (show s.left = 0 by unfold RS.left; rw [if_neg hbad])
    clear hbad
    go_enter Tryd.func33, Tryd.ntmps33
    go_wp2
    go_ret
    exact ⟨by rw [HE.out]; rfl, Chg.refl _ _⟩

set_option maxRecDepth 100000 in
theorem rerr_ok {w : World} {base b : Nat} {v : Value} {s : RS} (h : RdIs w base b v s) :
    Calls Tryd.prog 31 #[.pointer (some ⟨b, 0, none⟩)] w fun r w' => r = .returned (.tuple #[.int .i64 s.bad, .int .i64 (if s.bad = 0 then 0 else s.wh)]) ∧ Chg (fun _ => False) w w' := by
  obtain ⟨hb, f0, f1, f2, f3, z1, z2, z3⟩ := h.facts
  clear h f0 f1 z1 z2 z3
  by_cases hbad : s.bad = 0
  · rw [if_pos hbad, hbad]
    rw [hbad] at f3
    clear hbad
    go_enter Tryd.func31, Tryd.ntmps31
    go_wp2
    go_ret2
    exact ⟨rfl, Chg.refl _ _⟩
  · have hb1 : (s.bad == 0) = false := by simp [hbad]
    rw [if_neg hbad]
    clear hbad
    go_enter Tryd.func31, Tryd.ntmps31
    go_wp2
    go_quiet (fail)
    go_wp2
    go_ret2
    exact ⟨rfl, (Chg.refl _ _).drewN _⟩

/-- A part of a row. -/
theorem row_part {w : World} {base : Nat} {e : TypeId} {oa : Option Addr} {n c : Nat} {xs : List Int} (h : w.ownsRow base e 1 (.slice oa n c) n (xs.map (Value.int .u8))) (hb : ∀ x ∈ xs, 0 ≤ x ∧ x ≤ 255) (hn : n = xs.length) {p k : Nat} (hk : p + k ≤ n) {oa' : Option Addr} {c' : Nat}
    (hc1 : k ≤ c') (hc2 : c' ≤ maxLen) (hc3 : oa' = none → c' = 0) (ha : 0 < k → ∀ a, oa = some a → oa' = some (a.add p)) : BytesIs w (.slice oa' k c') ((xs.drop p).take k) := by
  subst hn
  have hl : ((xs.drop p).take k).length = k := by rw [List.length_take, List.length_drop]; omega
  refine ⟨oa', c', by rw [hl], by rw [hl]; exact hc1, hc2, hc3, fun j b hj => ?_⟩
  have hjk : j < k := by have := (List.getElem?_eq_some_iff.1 hj).1; omega
  rw [List.getElem?_take_of_lt hjk, List.getElem?_drop] at hj
  obtain ⟨ob, cb, hv, _, _, _, h5⟩ := row_bytes h hb
  simp only [Value.slice.injEq, true_and] at hv
  obtain ⟨rfl, rfl⟩ := hv
  obtain ⟨a, rfl, hc, h1, h2⟩ := h5 (p + j) b hj
  refine ⟨_, ha (by omega) a rfl, ?_, h1, h2⟩
  rw [Go.Deep.add_add]
  exact hc

set_option maxHeartbeats 1000000 in
set_option maxRecDepth 100000 in
theorem rnext_ok {w : World} {base b : Nat} {v : Value} {s : RS} (h : RdIs w base b v s) (n : Nat) (hn : n ≤ 9223372036854775807) :
    Calls Tryd.prog 65 #[.pointer (some ⟨b, 0, none⟩), .int .i64 n] w fun r w' => ∃ v', r = .returned v' ∧ BytesIs w' v' (s.took n) ∧ RGoes w w' base b v (s.next n) := by
  obtain ⟨hb, f0, f1, f2, f3, z1, z2, z3⟩ := h.facts
  have H := Lib.hid h
  obtain ⟨o1, c1, hv, hc1, hc2, hc3, hc4⟩ := row_form h.row
  have hle := h.le
  have hfew := h.few
  have HC3 := Lib.hid hc3
  have HC4 := Lib.hid hc4
  have HMX := Lib.hid hc2
  unfold maxLen at hc2
  have wk : IntKind.i64.wrap ((s.xs.length : Int) - (s.pos : Int)) = (s.xs.length : Int) - (s.pos : Int) := by rw [IntKind.wrap_i64]; omega
  have HF := Lib.hid (fun (wy : World) (hy : Chg (fun _ => False) w wy) => rfail_ok (h.frame hy fun _ _ => id) 11 s.pos)
  rw [hv] at f0
  clear h f2 z2 z3 hc3 hc4 hfew
  by_cases hbad : s.bad = 0
  · have hb1 : (s.bad != 0) = false := by simp [hbad]
    by_cases hr : s.pos + n ≤ s.xs.length
    · have HE1 := Lib.hid (show s.next n = { s with pos := s.pos + n } by unfold RS.next RS.okB; rw [decide_eq_true hbad, decide_eq_true hr]; rfl)
      have HE2 := Lib.hid (show s.took n = (s.xs.drop s.pos).take n by unfold RS.took RS.okB; rw [decide_eq_true hbad, decide_eq_true hr]; rfl)
      have HP := Lib.hid (fun (wy : World) (hy : Chg (fun _ => False) w wy) => (show RGoes w (wy.setCell ⟨b, 1, none⟩ (.int .i64 ((s.pos : Int) + n))) base b v { s with pos := s.pos + n } from RGoes.after (hy.mono fun _ _ h => h.elim) ((H.out.frame hy fun _ _ => id).put ((Chg.refl (fun i => i = b) wy).setCell (p := ⟨b, 1, none⟩) (fun _ => rfl) _) rfl hr (by
        rw [blk_setCell_eq, (hy.blk' H.out.st id)]
        simp [objSet]))))
      have hr1 : ¬ ((s.xs.length : Int) - (s.pos : Int) < (n : Int)) := by omega
      have hr2 : decide ((s.xs.length : Int) - (s.pos : Int) < (n : Int)) = false := by simp; omega
      clear hbad HF
      go_enter Tryd.func65, Tryd.ntmps65
      go_wp2
      go_quiet (fail)
      go_wp2
      have G := Lib.hid (HP.out (w.drewN nq) ((Chg.refl _ _).drewN _))
      obtain ⟨wz, hwz⟩ : ∃ wz, wz = (w.drewN nq).setCell ⟨b, 1, none⟩ (.int .i64 ((s.pos : Int) + n)) := ⟨_, rfl⟩
      rw [← hwz] at G ⊢
      obtain ⟨_, y0, y1, _⟩ := G.out.1.facts
      rw [hv] at y0
      dsimp only at y1
      have y1' : wz.cell? ⟨b, 1, none⟩ = some (.int .i64 ((s.pos : Int) + (n : Int))) := by rw [y1]; push_cast; rfl
      have wk2 : IntKind.i64.wrap ((s.pos : Int) + (n : Int) - (n : Int)) = (s.pos : Int) := by rw [IntKind.wrap_i64]; omega
      have HRow := Lib.hid G.out.1.row
      have HBY := Lib.hid H.out.byte
      clear hwz y1 wk f0 f1 f3 z1 HP hb1 hr2
      subst hv
      have hh1 : (s.pos : Int) + (n : Int) ≤ (c1 : Int) := by omega
      cases o1 with
      | none =>
        have hx0 : s.xs.length = 0 ∧ c1 = 0 := HC3.out rfl
        have hp0 : s.pos = 0 := by omega
        have hn0 : n = 0 := by omega
        have HT := Lib.hid (show (s.xs.drop s.pos).take n = [] by rw [hn0]; rfl)
        obtain ⟨hx0, hc0⟩ := hx0
        subst hc0 hn0
        have HX0 := Lib.hid hx0
        rw [hx0] at y0
        clear hx0 hr hr1 hle hc1 hh1
        rw [hp0] at y1' wk2
        rw [hp0]
        clear hp0
        go_quiet (fail)
        go_wp2
        go_ret
        exact ⟨_, rfl, by rw [HE2.out, HT.out]; exact ⟨none, 0, rfl, by simp, by simp, fun _ => rfl, fun j b hj => by simp at hj⟩, by rw [HE1.out]; exact ⟨G.out.1.frame ((Chg.refl (fun _ => False) _).drewN _) fun _ _ => id, G.out.2.drewN _⟩⟩
      | some a =>
        have ha : a = ⟨a.block, 0, none⟩ := HC4.out a rfl
        obtain ⟨g, hg⟩ : ∃ g, g = a.block := ⟨_, rfl⟩
        rw [← hg] at ha
        subst ha
        clear hg
        by_cases hcp : c1 = s.pos
        · have hn0 : n = 0 := by omega
          have HT := Lib.hid (show (s.xs.drop s.pos).take n = [] by rw [hn0]; rfl)
          subst hn0
          subst hcp
          go_quiet (fail)
          go_wp2
          go_ret
          exact ⟨_, rfl, by rw [HE2.out, HT.out]; exact ⟨_, 0, rfl, by simp, by simp, (fun _ => rfl), fun j b hj => by simp at hj⟩, by rw [HE1.out]; exact ⟨G.out.1.frame ((Chg.refl (fun _ => False) _).drewN _) fun _ _ => id, G.out.2.drewN _⟩⟩
        · have hcp' : ¬ (s.pos = c1) := fun h => hcp h.symm
          have hpart : BytesIs wz (.slice (some ⟨g, s.pos, none⟩) n (c1 - s.pos)) ((s.xs.drop s.pos).take n) := row_part HRow.out HBY.out rfl hr (by omega) (by unfold maxLen; omega) (fun h => by cases h) fun _ a h => by
            cases h
            rw [addr_add, Nat.zero_add]
          have HPT := Lib.hid hpart
          clear hpart
          go_quiet (fail)
          go_wp2
          go_ret
          exact ⟨_, rfl, by rw [HE2.out]; exact HPT.out.frame ((Chg.refl (fun _ => False) _).drewN _) fun _ _ => id, by rw [HE1.out]; exact ⟨G.out.1.frame ((Chg.refl (fun _ => False) _).drewN _) fun _ _ => id, G.out.2.drewN _⟩⟩
    · have HE1 := Lib.hid (show s.next n = s.fail 11 s.pos by unfold RS.next RS.okB; rw [decide_eq_false hr]; simp)
      have HE2 := Lib.hid (show s.took n = [] by unfold RS.took RS.okB; rw [decide_eq_false hr]; simp)
      have hr1 : ((s.xs.length : Int) - (s.pos : Int) < (n : Int)) := by omega
      have hr2 : decide ((s.xs.length : Int) - (s.pos : Int) < (n : Int)) = true := by simp; omega
      have HFB := Lib.hid (show (s.fail 11 s.pos).bad = 11 by unfold RS.fail; rw [if_pos hbad])
      clear hbad
      subst hv
      go_enter Tryd.func65, Tryd.ntmps65
      go_wp2
      go_quiet (fail)
      have HFX := Lib.hid (HF.out (w.drewN nq) ((Chg.refl _ _).drewN _))
      clear HF
      go_wp2_with fail
      refine HFX.out.mono ?_
      rintro e w1 ⟨rfl, hg⟩
      obtain ⟨_, _, _, _, y3, _⟩ := hg.1.facts
      rw [HFB.out] at y3
      have HG := Lib.hid hg
      clear hg HFX
      go_wp2
      go_ret
      exact ⟨_, rfl, by rw [HE2.out]; exact ⟨none, 0, rfl, by simp, by simp, fun _ => rfl, fun j b hj => by simp at hj⟩, by rw [HE1.out]; exact RGoes.after ((Chg.refl _ _).drewN _) HG.out⟩
  · have hb1 : (s.bad != 0) = true := by simp [hbad]
    have hb2 : (s.bad == 0) = false := by simp [hbad]
    have HE2 := Lib.hid (show s.took n = [] by unfold RS.took RS.okB; rw [decide_eq_false hbad]; simp)
    have HFS := Lib.hid (show s.fail 11 s.pos = s by unfold RS.fail; rw [if_neg hbad])
    have HE1 := Lib.hid (show s.next n = s by unfold RS.next RS.okB; rw [decide_eq_false hbad]; simpa using HFS.out)
    clear hbad
    subst hv
    by_cases hr : s.pos + n ≤ s.xs.length
    · have hr1 : ¬ ((s.xs.length : Int) - (s.pos : Int) < (n : Int)) := by omega
      have hr2 : decide ((s.xs.length : Int) - (s.pos : Int) < (n : Int)) = false := by simp; omega
      clear HF
      go_enter Tryd.func65, Tryd.ntmps65
      go_wp2
      go_quiet (fail)
      go_wp2
      go_ret
      exact ⟨_, rfl, by rw [HE2.out]; exact ⟨none, 0, rfl, by simp, by simp, fun _ => rfl, fun j b hj => by simp at hj⟩, by rw [HE1.out]; exact H.out.stays ((Chg.refl _ _).drewN _)⟩
    · have hr1 : ((s.xs.length : Int) - (s.pos : Int) < (n : Int)) := by omega
      have hr2 : decide ((s.xs.length : Int) - (s.pos : Int) < (n : Int)) = true := by simp; omega
      go_enter Tryd.func65, Tryd.ntmps65
      go_wp2
      go_quiet (fail)
      have HFX := Lib.hid (HF.out (w.drewN nq) ((Chg.refl _ _).drewN _))
      clear HF
      go_wp2_with fail
      refine HFX.out.mono ?_
      rintro e w1 ⟨rfl, hg⟩
      rw [HFS.out] at hg
      obtain ⟨_, _, _, _, y3, _⟩ := hg.1.facts
      have HG := Lib.hid hg
      clear hg HFX
      go_wp2
      go_ret
      exact ⟨_, rfl, by rw [HE2.out]; exact ⟨none, 0, rfl, by simp, by simp, fun _ => rfl, fun j b hj => by simp at hj⟩, by rw [HE1.out]; exact RGoes.after ((Chg.refl _ _).drewN _) HG.out⟩
end Go.Proofs.YtfihpiommicdbaaDoor
