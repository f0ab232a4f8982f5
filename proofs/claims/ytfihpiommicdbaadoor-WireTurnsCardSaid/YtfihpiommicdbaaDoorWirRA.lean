/- The document's reader: how one lies in memory; contracts of fail, NewReader, Err, Left, Fail, End. No condition. -/
import Derived.Test.YtfihpiommicdbaaDoorWirN
namespace Go.Proofs.YtfihpiommicdbaaDoor
open Go.RowKit Go.Cl
set_option linter.unusedVariables false
set_option linter.unusedSimpArgs false
attribute [local go_sem] lt_add_one' blk_alloc_past blk_alloc_at blk_drew blk_setCell_ne

/-- Where it went wrong, as it is told. -/
def RS.whv (s : RS) : Int := if s.bad = 0 then 0 else s.wh

/-- The document's reader of the same state. -/
structure VdIs (w : World) (base b : Nat) (v : Value) (s : RS) : Prop where
  st : blk w b = some (.cells #[v, .int .i64 s.pos, .int .i64 s.bad, .int .i64 s.whv] 108 (0, 0))
  row : w.ownsRow base 5 1 v s.xs.length (s.xs.map (Value.int .u8))
  byte : ∀ x ∈ s.xs, 0 ≤ x ∧ x ≤ 255
  le : s.pos ≤ s.xs.length
  few : s.xs.length ≤ 140737488355328
  nb : base ≤ b

theorem VdIs.ne {w : World} {base b : Nat} {v : Value} {s : RS} (h : VdIs w base b v s) : some b ≠ v.ownBlock := fun e => by
  obtain ⟨_, cur, hc⟩ := row_block h.row e.symm
  rw [h.st] at hc
  simp only [Option.some.injEq, Obj.cells.injEq] at hc
  exact absurd hc.2.1 (by decide)
theorem VdIs.frame {S : Nat → Prop} {w w' : World} {base b : Nat} {v : Value} {s : RS} (h : VdIs w base b v s) (hc : Chg S w w') (hs : ∀ i, RFoot b v i → ¬ S i) : VdIs w' base b v s :=
  ⟨hc.blk' h.st (hs b (.inl rfl)), row_frame h.row hc fun g hg => hs g (.inr hg.symm), h.byte, h.le, h.few, h.nb⟩
theorem VdIs.foot {w : World} {base b : Nat} {v : Value} {s : RS} (h : VdIs w base b v s) {i : Nat} (hi : RFoot b v i) : base ≤ i ∧ i < w.heap.size := by
  rcases hi with rfl | hi
  · exact ⟨h.nb, blk_lt h.st⟩
  · obtain ⟨hb, cur, hc⟩ := row_block h.row hi.symm
    exact ⟨hb, blk_lt hc⟩
theorem VdIs.same {w : World} {base b : Nat} {v : Value} {s s' : RS} (h : VdIs w base b v s) (h1 : s'.xs = s.xs) (h2 : s'.pos = s.pos) (h3 : s'.bad = s.bad) (h4 : s'.whv = s.whv) : VdIs w base b v s' := by
  refine ⟨?_, ?_, ?_, ?_, ?_, h.nb⟩
  · rw [h2, h3, h4]; exact h.st
  · rw [h1]; exact h.row
  · rw [h1]; exact h.byte
  · rw [h1, h2]; exact h.le
  · rw [h1]; exact h.few

def VGoes (w w' : World) (base b : Nat) (v : Value) (s' : RS) : Prop := VdIs w' base b v s' ∧ Chg (fun i => i = b) w w'
theorem VdIs.stays {w w' : World} {base b : Nat} {v : Value} {s : RS} (h : VdIs w base b v s) (hc : Chg (fun _ => False) w w') : VGoes w w' base b v s := ⟨h.frame hc fun _ _ => id, hc.mono fun _ _ h => h.elim⟩
theorem VGoes.after {w w1 w2 : World} {base b : Nat} {v : Value} {s : RS} (hc : Chg (fun i => i = b) w w1) (h : VGoes w1 w2 base b v s) : VGoes w w2 base b v s := ⟨h.1, hc.trans h.2 fun _ _ h => h⟩

theorem VdIs.facts {w : World} {base b : Nat} {v : Value} {s : RS} (h : VdIs w base b v s) :
    b < w.heap.size ∧ w.cell? ⟨b, 0, none⟩ = some v ∧ w.cell? ⟨b, 1, none⟩ = some (.int .i64 s.pos) ∧ w.cell? ⟨b, 2, none⟩ = some (.int .i64 s.bad) ∧ w.cell? ⟨b, 3, none⟩ = some (.int .i64 s.whv) ∧ w.frozen? ⟨b, 1, none⟩ = false ∧ w.frozen? ⟨b, 2, none⟩ = false ∧ w.frozen? ⟨b, 3, none⟩ = false :=
  ⟨blk_lt h.st, cell_of_blk h.st 0, cell_of_blk h.st 1, cell_of_blk h.st 2, cell_of_blk h.st 3, frozen_of_blk h.st 1, frozen_of_blk h.st 2, frozen_of_blk h.st 3⟩

/-- The struct is written anew. -/
theorem VdIs.put {w w' : World} {base b : Nat} {v : Value} {s s' : RS} (h : VdIs w base b v s) (hc : Chg (fun i => i = b) w w') (hx : s'.xs = s.xs) (hp : s'.pos ≤ s.xs.length)
    (hb : blk w' b = some (.cells #[v, .int .i64 s'.pos, .int .i64 s'.bad, .int .i64 s'.whv] 108 (0, 0))) : VGoes w w' base b v s' :=
  ⟨⟨hb, by rw [hx]; exact row_frame h.row hc fun g hg e => h.ne (by rw [hg, e]), by rw [hx]; exact h.byte, by rw [hx]; exact hp, by rw [hx]; exact h.few, h.nb⟩, hc⟩

theorem vfail_ok {w : World} {base b : Nat} {v : Value} {s : RS} (h : VdIs w base b v s) (e p : Int) :
    Calls Tryd.prog 66 #[.pointer (some ⟨b, 0, none⟩), .int .i64 e, .int .i64 p] w fun r w' => r = .returned (.tuple #[]) ∧ VGoes w w' base b v (if e = 0 then s else s.fail e p) := by
  obtain ⟨hb, f0, f1, f2, f3, z1, z2, z3⟩ := h.facts
  have H := Lib.hid h
  by_cases hbad : s.bad = 0
  · by_cases he : e = 0
    · have hb1 : (s.bad == 0) = true := by simp [hbad]
      have hb2 : (e != 0) = false := by simp [he]
      rw [if_pos he]
      clear hbad he h f0 f1 z1
      go_enter Tryd.func66, Tryd.ntmps66
      go_wp2
      go_end0
      exact ⟨rfl, H.out.stays (Chg.refl _ _)⟩
    · have hb1 : (s.bad == 0) = true := by simp [hbad]
      have hb2 : (e != 0) = true := by simp [he]
      rw [if_neg he]
      have HE := Lib.hid (show s.fail e p = { s with bad := e, wh := p } by unfold RS.fail; rw [if_pos hbad])
      have HB := Lib.hid (show VGoes w ((w.setCell ⟨b, 2, none⟩ (.int .i64 e)).setCell ⟨b, 3, none⟩ (.int .i64 p)) base b v { s with bad := e, wh := p } from h.put (((Chg.refl (fun i => i = b) w).setCell (p := ⟨b, 2, none⟩) (fun _ => rfl) _).setCell (p := ⟨b, 3, none⟩) (fun _ => rfl) _) rfl h.le (by
        rw [blk_setCell_eq, blk_setCell_eq, h.st]
        simp [objSet, RS.whv, he]))
      clear hbad he h f0 f1 z1
      go_enter Tryd.func66, Tryd.ntmps66
      go_wp2
      go_end0
      exact ⟨rfl, by rw [HE.out]; exact HB.out⟩
  · have hb1 : (s.bad == 0) = false := by simp [hbad]
    have HE := Lib.hid (show (if e = 0 then s else s.fail e p) = s by
      split
      · rfl
      · unfold RS.fail; rw [if_neg hbad])
    obtain ⟨s2, hs2⟩ : ∃ s2, s2 = (if e = 0 then s else s.fail e p) := ⟨_, rfl⟩
    rw [← hs2] at HE ⊢
    clear hs2 hbad h f0 f1 z1
    go_enter Tryd.func66, Tryd.ntmps66
    go_wp2
    go_end0
    exact ⟨rfl, by rw [HE.out]; exact H.out.stays (Chg.refl _ _)⟩
/-- Something is wrong for sure. -/
theorem vfail_at {w : World} {base b : Nat} {v : Value} {s : RS} (h : VdIs w base b v s) (e p : Int) (he : e ≠ 0) :
    Calls Tryd.prog 66 #[.pointer (some ⟨b, 0, none⟩), .int .i64 e, .int .i64 p] w fun r w' => r = .returned (.tuple #[]) ∧ VGoes w w' base b v (s.fail e p) := by
  have := vfail_ok h e p
  rw [if_neg he] at this
  exact this

set_option maxHeartbeats 1000000 in
set_option maxRecDepth 100000 in
theorem newV_ok {w : World} {v : Value} {xs : List Int} (h : BytesIs w v xs) (hl : xs.length ≤ 140737488355328) :
    Calls Tryd.prog 24 #[v] w fun r w' => ∃ b v', r = .returned (.pointer (some ⟨b, 0, none⟩)) ∧ VdIs w' w.heap.size b v' (RS.zero xs) ∧ Chg (fun _ => False) w w' := by
  have HB := Lib.hid h.byte
  have HL := Lib.hid hl
  have HX := Lib.hid h
  obtain ⟨o1, c1, rfl, hc1, hc2, hc3, _⟩ := h
  have HC0 := Lib.hid hc3
  have HS := Lib.hid HX.out.src
  obtain ⟨i0, hi, hz0, hz1, hz2⟩ := info5z
  have HN := Lib.hid (nil_row w w.heap.size 5)
  clear hl hc1 hc2 hc3
  go_enter Tryd.func24, Tryd.ntmps24
  go_wp2_with (at_builtin; refine wpList_app rfl _ _ 24 rfl w.heap.size 5 i0 (.int .u8 0) 1 1 Tryd.underlying24 hi hz0 hz1 hz2 rfl (by decide) (.slice none 0 0) 0 [] (by rfl) HN.out o1 xs.length c1 _ (by rfl) HS.out HC0.out (by have := HL.out; unfold maxLen; omega) (by have := HL.out; omega) (Nat.le_refl _) ?_; intro v1 w1 hown hgrow hlie; have HO := Lib.hid (show w1.ownsRow w.heap.size 5 1 v1 xs.length (xs.map (Value.int .u8)) by simpa using hown); have HC := Lib.hid (show Chg (fun _ => False) w w1 from (Chg.of_grown hgrow).mono fun _ _ h => by simp [Value.ownBlock] at h); clear hown hgrow hlie; obtain ⟨ov, cv, rfl, _⟩ := row_form HO.out)
  go_ret
  exact ⟨_, _, rfl, ⟨blk_alloc_at _ _ _ rfl, row_frame HO.out ((Chg.refl (fun _ => False) w1).alloc _) fun _ _ => id, HB.out, by simp [RS.zero], HL.out, HC.out.size⟩, HC.out.alloc _⟩

set_option maxRecDepth 100000 in
theorem vleft_ok {w : World} {base b : Nat} {v : Value} {s : RS} (h : VdIs w base b v s) :
    Calls Tryd.prog 70 #[.pointer (some ⟨b, 0, none⟩)] w fun r w' => r = .returned (.int .i64 s.left) ∧ Chg (fun _ => False) w w' := by
  obtain ⟨hb, f0, f1, f2, f3, z1, z2, z3⟩ := h.facts
  obtain ⟨o1, c1, rfl, hc1, hc2, hc3, _⟩ := row_form h.row
  have hle := h.le
  have hfew := h.few
  unfold maxLen at hc2
  clear h f3 z1 z2 z3
  by_cases hbad : s.bad = 0
  · have hb1 : (s.bad != 0) = false := by simp [hbad]
    have HE := Lib.hid (show s.left = (s.xs.length : Int) - s.pos by unfold RS.left; rw [if_pos hbad])
    clear hbad
    go_enter Tryd.func70, Tryd.ntmps70
    go_wp2
    have wk : IntKind.i64.wrap ((s.xs.length : Int) - (s.pos : Int)) = (s.xs.length : Int) - (s.pos : Int) := by rw [IntKind.wrap_i64]; omega
    go_quiet (fail)
    go_wp2
    go_ret
    exact ⟨by rw [HE.out]; rfl, (Chg.refl _ _).drewN _⟩
  · have hb1 : (s.bad != 0) = true := by simp [hbad]
    have HE := Lib.hid (show s.left = 0 by unfold RS.left; rw [if_neg hbad])
    clear hbad
    go_enter Tryd.func70, Tryd.ntmps70
    go_wp2
    go_ret
    exact ⟨by rw [HE.out]; rfl, Chg.refl _ _⟩

set_option maxRecDepth 100000 in
theorem verr_ok {w : World} {base b : Nat} {v : Value} {s : RS} (h : VdIs w base b v s) :
    Calls Tryd.prog 69 #[.pointer (some ⟨b, 0, none⟩)] w fun r w' => r = .returned (.tuple #[.int .i64 s.bad, .int .i64 s.whv]) ∧ Chg (fun _ => False) w w' := by
  obtain ⟨hb, f0, f1, f2, f3, z1, z2, z3⟩ := h.facts
  clear h f0 f1 z1 z2 z3
  obtain ⟨bd, hbd⟩ : ∃ x, x = s.bad := ⟨_, rfl⟩
  obtain ⟨wv, hwv⟩ : ∃ x, x = s.whv := ⟨_, rfl⟩
  rw [← hbd] at f2 ⊢
  rw [← hwv] at f3 ⊢
  clear hbd hwv
  go_enter Tryd.func69, Tryd.ntmps69
  go_wp2
  go_quiet (fail)
  go_wp2
  go_ret2
  exact ⟨rfl, (Chg.refl _ _).drewN _⟩

theorem vFail_ok {w : World} {base b : Nat} {v : Value} {s : RS} (h : VdIs w base b v s) (e : Int) :
    Calls Tryd.prog 75 #[.pointer (some ⟨b, 0, none⟩), .int .i64 e] w fun r w' => r = .returned (.tuple #[]) ∧ VGoes w w' base b v (if e = 0 then s else s.fail e s.pos) := by
  obtain ⟨hb, f0, f1, f2, f3, z1, z2, z3⟩ := h.facts
  have HF := Lib.hid (vfail_ok h e s.pos)
  obtain ⟨s2, hs2⟩ : ∃ s2, s2 = (if e = 0 then s else s.fail e s.pos) := ⟨_, rfl⟩
  rw [← hs2] at HF ⊢
  clear hs2 h f0 f2 f3 z1 z2 z3
  go_enter Tryd.func75, Tryd.ntmps75
  go_wp2_with fail
  refine HF.out.mono ?_
  rintro e1 w1 ⟨rfl, hg⟩
  have HG := Lib.hid hg
  clear hg HF
  go_wp2
  go_end0
  exact ⟨rfl, HG.out⟩

theorem end_eq (s : RS) : s.end = if s.bad = 0 ∧ s.pos < s.xs.length then s.fail 14 s.pos else s := by
  unfold RS.end RS.left
  by_cases hb : s.bad = 0
  · by_cases hp : s.pos < s.xs.length
    · rw [if_pos hb, if_pos (by omega), if_pos ⟨hb, hp⟩]
    · rw [if_pos hb, if_neg (by omega), if_neg (fun h => hp h.2)]
  · rw [if_neg hb, if_neg (by omega), if_neg (fun h => hb h.1)]
set_option maxRecDepth 100000 in
theorem vend_ok {w : World} {base b : Nat} {v : Value} {s : RS} (h : VdIs w base b v s) :
    Calls Tryd.prog 74 #[.pointer (some ⟨b, 0, none⟩)] w fun r w' => r = .returned (.tuple #[]) ∧ VGoes w w' base b v s.end := by
  obtain ⟨hb, f0, f1, f2, f3, z1, z2, z3⟩ := h.facts
  have H := Lib.hid h
  have HD := Lib.hid (fun n => h.frame ((Chg.refl (fun _ => False) w).drewN n) fun _ _ => id)
  obtain ⟨o1, c1, rfl, hc1, hc2, hc3, _⟩ := row_form h.row
  rw [end_eq]
  clear h f3 z1 z2 z3
  by_cases hbad : s.bad = 0
  · have hb1 : (s.bad == 0) = true := by simp [hbad]
    by_cases hp : s.pos < s.xs.length
    · have hp1 : decide (s.pos < s.xs.length) = true := decide_eq_true hp
      rw [if_pos ⟨hbad, hp⟩]
      clear hbad hp
      go_enter Tryd.func74, Tryd.ntmps74
      go_wp2
      go_quiet (fail)
      have HF := Lib.hid (fun n => vfail_at (HD.out n) 14 s.pos (by decide))
      go_wp2_with fail
      refine (HF.out _).mono ?_
      rintro e1 w2 ⟨rfl, hg⟩
      have HG := Lib.hid hg
      clear hg HF
      go_wp2
      go_end0
      exact ⟨rfl, HG.out.after ((Chg.refl _ _).drewN _)⟩
    · have hp1 : decide (s.pos < s.xs.length) = false := decide_eq_false hp
      rw [if_neg (fun h => hp h.2)]
      clear hbad hp
      go_enter Tryd.func74, Tryd.ntmps74
      go_wp2
      go_quiet (fail)
      go_wp2
      go_end0
      exact ⟨rfl, H.out.stays ((Chg.refl _ _).drewN _)⟩
  · have hb1 : (s.bad == 0) = false := by simp [hbad]
    rw [if_neg (fun h => hbad h.1)]
    clear hbad
    go_enter Tryd.func74, Tryd.ntmps74
    go_wp2
    go_quiet (fail)
    go_wp2
    go_end0
    exact ⟨rfl, H.out.stays ((Chg.refl _ _).drewN _)⟩
end Go.Proofs.YtfihpiommicdbaaDoor
