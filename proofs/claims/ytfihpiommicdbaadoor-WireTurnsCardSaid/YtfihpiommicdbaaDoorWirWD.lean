/- Two writers beside the book: what a call of either leaves; contract of done. No condition. -/
import Derived.Test.YtfihpiommicdbaaDoorWirWC
import Derived.Test.YtfihpiommicdbaaDoorWirBI
import Derived.BigQuiet
namespace Go.Proofs.YtfihpiommicdbaaDoor
open Go.RowKit Go.Cl
set_option linter.unusedVariables false
set_option linter.unusedSimpArgs false
attribute [local go_sem] lt_add_one' blk_alloc_past blk_alloc_at blk_drew blk_setCell_ne

/-- A writer among things that lie apart; the document's. -/
def wrT (base b m : Nat) (v : Value) (s : WS) : Thing := ⟨fun w => WrIs w base b m v s, WFoot b m v, fun h hc hs => h.frame hc hs, fun h hi => (h.foot hi).2⟩
def vwT (base b : Nat) (v o : Value) (s : WS) : Thing := ⟨fun w => VwIs w base b v o s, VwFoot b v o, fun h hc hs => h.frame hc hs, fun h hi => (h.foot hi).2⟩
/-- Two writers beside the book. -/
def Two (base : Nat) (w : World) (B : Nat) (bs : BS) (b b' : Nat) (s s2 : WS) (R : List Thing) : Prop :=
  ∃ m v v' o', BookAt base w B bs (wrT base b m v s :: vwT base b' v' o' s2 :: R)

/-- Something new stands beside the book. -/
theorem BookAt.add {base B : Nat} {w w1 : World} {bs : BS} {u : Thing} {R : List Thing} (h : BookAt base w B bs R) (hb : base ≤ w.heap.size) (hc : Chg (fun _ => False) w w1) (hu : u.holds w1) (hf : ∀ i, u.foot i → w.heap.size ≤ i) : BookAt base w1 B bs (u :: R) :=
  (h.step (C := True) fun Z hz => ⟨hz.pushAt Z hb hc hu hf, trivial⟩).1
theorem BookAt.nilRow {base B : Nat} {w : World} {bs : BS} {R : List Thing} (h : BookAt base w B bs R) (e : TypeId) (size : Nat) : BookAt base w B bs (rowT base e size (.slice none 0 0) 0 [] :: R) :=
  (h.step (C := True) fun Z hz => ⟨(hz.nilRow e size).perm List.perm_middle.symm, trivial⟩).1
/-- A new row, or none. -/
theorem BookAt.addRow {base B : Nat} {w w1 : World} {bs : BS} {e : TypeId} {size n : Nat} {v : Value} {xs : List Value} {R : List Thing} (h : BookAt base w B bs R) (hb : base ≤ w.heap.size) (hc : Chg (fun _ => False) w w1) (hr : w1.ownsRow w.heap.size e size v n xs) : BookAt base w1 B bs (rowT base e size v n xs :: R) :=
  h.add hb hc (rowLow hr hb) fun i hi => (row_block hr (show v.ownBlock = some i from hi.symm)).1

theorem Two.wr {base B b b' : Nat} {w : World} {bs : BS} {s s2 : WS} {R : List Thing} (h : Two base w B bs b b' s s2 R) (hb : base ≤ w.heap.size) : ∃ m v, WrIs w base b m v s ∧ ∀ w1 s', WGoes w w1 base b m v s' → Two base w1 B bs b b' s' s2 R ∧ Chg (fun i => base ≤ i) w w1 := by
  obtain ⟨m, v, v', o', h⟩ := h
  have hw : WrIs w base b m v s := h.mem (t := wrT base b m v s) (by simp)
  refine ⟨m, v, hw, fun w1 s' hg => ?_⟩
  obtain ⟨v1, hw1, hc1, hf1⟩ := hg
  have h1 := h.step (w' := w1) (R' := wrT base b m v1 s' :: vwT base b' v' o' s2 :: R) (C := Chg (fun i => base ≤ i) w w1) fun Z hz => ⟨hz.putAt Z hb hc1 (fun i _ hi => hi) hw1 hf1, hc1.mono fun i _ hi => (hw.foot hi).1⟩
  exact ⟨⟨m, v1, v', o', h1.1⟩, h1.2⟩
theorem Two.vw {base B b b' : Nat} {w : World} {bs : BS} {s s2 : WS} {R : List Thing} (h : Two base w B bs b b' s s2 R) (hb : base ≤ w.heap.size) : ∃ v o, VwIs w base b' v o s2 ∧ ∀ w1 s', VwGoes w w1 base b' v o s' → Two base w1 B bs b b' s s' R ∧ Chg (fun i => base ≤ i) w w1 := by
  obtain ⟨m, v, v', o', h⟩ := h
  have hw : VwIs w base b' v' o' s2 := h.mem (t := vwT base b' v' o' s2) (by simp)
  refine ⟨v', o', hw, fun w1 s' hg => ?_⟩
  obtain ⟨v1, o1, hw1, hc1, hf1⟩ := hg
  have h1 := h.step (w' := w1) (R' := wrT base b m v s :: vwT base b' v1 o1 s' :: R) (C := Chg (fun i => base ≤ i) w w1) fun Z hz => by
    have h2 : Sep base w ((Z ++ [wrT base b m v s]) ++ vwT base b' v' o' s2 :: R) := by simpa [List.append_assoc] using hz
    have h3 := h2.putAt _ hb hc1 (fun i _ hi => hi) (t' := vwT base b' v1 o1 s') hw1 hf1
    exact ⟨by simpa [List.append_assoc] using h3, hc1.mono fun i _ hi => (hw.foot hi).1⟩
  exact ⟨⟨m, v, v1, o1, h1.1⟩, h1.2⟩
theorem Two.still {base B b b' : Nat} {w w1 : World} {bs : BS} {s s2 : WS} {R : List Thing} (h : Two base w B bs b b' s s2 R) (hc : Chg (fun _ => False) w w1) : Two base w1 B bs b b' s s2 R := by
  obtain ⟨m, v, v', o', h⟩ := h
  exact ⟨m, v, v', o', h.still hc⟩
theorem Two.mem {base B b b' : Nat} {w : World} {bs : BS} {s s2 : WS} {R : List Thing} (h : Two base w B bs b b' s s2 R) {t : Thing} (ht : t ∈ R) : t.holds w := by
  obtain ⟨m, v, v', o', h⟩ := h
  exact h.mem (by simp [ht])
/-- What stands beside both turns. -/
theorem Two.rest {base B b b' : Nat} {w w1 : World} {bs : BS} {s s2 : WS} {R R' : List Thing} (h : Two base w B bs b b' s s2 R) {C : Prop} (f : ∀ Z, Sep base w (Z ++ R) → Sep base w1 (Z ++ R') ∧ C) : Two base w1 B bs b b' s s2 R' ∧ C := by
  obtain ⟨m, v, v', o', h⟩ := h
  have h1 := h.step (w' := w1) (R' := wrT base b m v s :: vwT base b' v' o' s2 :: R') (C := C) fun Z hz => by
    have h2 := f (Z ++ [wrT base b m v s, vwT base b' v' o' s2]) (by simpa [List.append_assoc] using hz)
    exact ⟨by simpa [List.append_assoc] using h2.1, h2.2⟩
  exact ⟨⟨m, v, v', o', h1.1⟩, h1.2⟩
theorem Two.sub {base B b b' : Nat} {w : World} {bs : BS} {s s2 : WS} {R R' : List Thing} (h : Two base w B bs b b' s s2 R) (hp : R'.Sublist R) : Two base w B bs b b' s s2 R' :=
  (h.rest (C := True) fun Z hz => ⟨hz.sub (hp.append_left Z), trivial⟩).1
theorem Two.perm {base B b b' : Nat} {w : World} {bs : BS} {s s2 : WS} {R R' : List Thing} (h : Two base w B bs b b' s s2 R) (hp : R.Perm R') : Two base w B bs b b' s s2 R' :=
  (h.rest (C := True) fun Z hz => ⟨hz.perm (hp.append_left Z), trivial⟩).1
theorem Two.add {base B b b' : Nat} {w w1 : World} {bs : BS} {s s2 : WS} {u : Thing} {R : List Thing} (h : Two base w B bs b b' s s2 R) (hb : base ≤ w.heap.size) (hc : Chg (fun _ => False) w w1) (hu : u.holds w1) (hf : ∀ i, u.foot i → w.heap.size ≤ i) : Two base w1 B bs b b' s s2 (u :: R) :=
  (h.rest (C := True) fun Z hz => ⟨hz.pushAt Z hb hc hu hf, trivial⟩).1
theorem Two.addRow {base B b b' : Nat} {w w1 : World} {bs : BS} {s s2 : WS} {e : TypeId} {size n : Nat} {v : Value} {xs : List Value} {R : List Thing} (h : Two base w B bs b b' s s2 R) (hb : base ≤ w.heap.size) (hc : Chg (fun _ => False) w w1) (hr : w1.ownsRow w.heap.size e size v n xs) : Two base w1 B bs b b' s s2 (rowT base e size v n xs :: R) :=
  h.add hb hc (rowLow hr hb) fun i hi => (row_block hr (show v.ownBlock = some i from hi.symm)).1
theorem Two.fine {base B b b' : Nat} {w : World} {bs : BS} {s s2 : WS} {R : List Thing} (h : Two base w B bs b b' s s2 R) : WFine s := by
  obtain ⟨m, v, v', o', h⟩ := h
  exact (h.mem (t := wrT base b m v s) (by simp) : WrIs w base b m v s).fine
/-- Two writers and a list of their own: the list is taken. -/
theorem Two.owns {base B b b' : Nat} {w : World} {bs : BS} {s s2 : WS} {v : Value} {xs : List Int} {R : List Thing} (h : Two base w B bs b b' s s2 (rowT base 5 1 v xs.length (u8s xs) :: R)) (hbs : base ≤ w.heap.size) (hx : Bytes xs) (hl : xs.length ≤ 140737488000000) {n : Nat} (hf : bs.few n) (hn : n ≤ 1000000) :
    Calls Tryd.prog 62 #[.pointer (some ⟨B, 0, none⟩), v] w fun e w' => e = .returned (.tuple #[]) ∧ (∃ bs', bs'.few (n + 2) ∧ Two base w' B bs' b b' s s2 R) ∧ Chg (fun i => base ≤ i) w w' := by
  obtain ⟨m, v1, v', o', h⟩ := h
  have h1 : BookAt base w B bs (rowT base 5 1 v xs.length (u8s xs) :: wrT base b m v1 s :: vwT base b' v' o' s2 :: R) := h.perm (List.perm_middle (l₁ := [_, _]))
  refine (owns_ok h1 hbs hx hl (by have := hf.1; omega)).mono fun e w' he => ⟨he.1, ?_, ?_⟩
  · obtain ⟨c, hb, -⟩ := he.2
    exact ⟨_, hf.own hl hx, m, v1, v', o', hb⟩
  · obtain ⟨c, -, hc⟩ := he.2
    exact hc

def WS.outs (s : WS) : List Int := if s.done = 0 then s.xs else []
theorem wdone_any {w : World} {base b m : Nat} {v : Value} {s : WS} (h : WrIs w base b m v s) :
    Calls Tryd.prog 40 #[ptrV b] w fun r w' => ∃ v', r = .returned (.tuple #[v', .int .i64 s.done]) ∧ w'.ownsRow w.heap.size 5 1 v' s.outs.length (u8s s.outs) ∧ Chg (fun _ => False) w w' := by
  by_cases hd : s.done = 0
  · have e : s.outs = s.xs := by unfold WS.outs; rw [if_pos hd]
    rw [e, hd]
    exact wdone_ok h hd
  · have e : s.outs = [] := by unfold WS.outs; rw [if_neg hd]
    rw [e]
    exact (wdone_bad h hd).mono fun r w' hr => ⟨_, hr.1, nil_row _ _ _, hr.2⟩
theorem vwdone_any {w : World} {base b : Nat} {v o : Value} {s : WS} (h : VwIs w base b v o s) :
    Calls Tryd.prog 61 #[.pointer (some ⟨b, 0, none⟩)] w fun r w' => ∃ v', r = .returned (.tuple #[v', .int .i64 s.done]) ∧ w'.ownsRow w.heap.size 5 1 v' s.outs.length (u8s s.outs) ∧ Chg (fun _ => False) w w' := by
  by_cases hd : s.done = 0
  · have e : s.outs = s.xs := by unfold WS.outs; rw [if_pos hd]
    rw [e, hd]
    exact vwdone_ok h hd
  · have e : s.outs = [] := by unfold WS.outs; rw [if_neg hd]
    rw [e]
    exact (vwdone_bad h hd).mono fun r w' hr => ⟨_, hr.1, nil_row _ _ _, hr.2⟩
theorem outs_byte {s : WS} (h : WFine s) : Bytes s.outs := by
  unfold WS.outs
  split
  · exact h.byte
  · exact fun b hb => by cases hb
theorem outs_few {s : WS} (h : WFine s) : s.outs.length ≤ 67108864 := by
  have := h.few
  have := h.l1
  unfold WS.outs
  split
  · omega
  · simp

set_option maxHeartbeats 4000000 in
set_option maxRecDepth 100000 in
theorem done_ok {w : World} {base B b b' : Nat} {bs : BS} {s : WS} {R : List Thing} (h : Two base w B bs b b' s s R) (hbs : base ≤ w.heap.size) {n : Nat} (hf : bs.few n) (hn : n ≤ 999990) :
    Calls Tryd.prog 22 #[.pointer (some ⟨b, 0, none⟩), .pointer (some ⟨b', 0, none⟩), .pointer (some ⟨B, 0, none⟩)] w fun e w' => e = .returned (.bool true) ∧ (∃ bs', bs'.few (n + 4) ∧ Two base w' B bs' b b' s s R) ∧ Chg (fun i => base ≤ i) w w' := by
  have HBY := Lib.hid (outs_byte h.fine)
  have HFW := Lib.hid (outs_few h.fine)
  obtain ⟨ys, hys⟩ : ∃ ys, ys = s.outs := ⟨_, rfl⟩
  obtain ⟨d, hd⟩ : ∃ d, d = s.done := ⟨_, rfl⟩
  have WD := Lib.hid (fun (wy : World) (m : Nat) (v : Value) (hw : WrIs wy base b m v s) => wdone_any hw)
  have VD := Lib.hid (fun (wy : World) (v o : Value) (hw : VwIs wy base b' v o s) => vwdone_any hw)
  rw [← hys, ← hd] at WD VD
  rw [← hys] at HBY HFW
  have SM := Lib.hid (fun (wy : World) (a c : Value) (h1 : BytesIs wy a ys) (h2 : BytesIs wy c ys) => same_ok h1 h2)
  rw [show decide (ys = ys) = true from decide_eq_true rfl] at SM
  have H := Lib.hid h
  have HBS := Lib.hid hbs
  have HF := Lib.hid hf
  have HN := Lib.hid hn
  have hdd : (d == d) = true := by simp
  have hll : ((s.xs.length : Int) == (s.xs.length : Int)) = true := by simp
  obtain ⟨m, v, hw, -⟩ := h.wr hbs
  have HW := Lib.hid hw
  clear h hbs hf hn hys hd hw
  go_enter Tryd.func22, Tryd.ntmps22
  go_wp2_with fail
  refine (WD.out _ _ _ HW.out).mono ?_
  rintro e w1 ⟨v1, rfl, hr1, hc1⟩
  have HR1 := Lib.hid hr1
  have HC1 := Lib.hid hc1
  have HT1 := Lib.hid (H.out.addRow HBS.out hc1 hr1)
  have HB1 := Lib.hid (Nat.le_trans HBS.out hc1.size)
  obtain ⟨o1, c1, rfl, -⟩ := row_form hr1
  obtain ⟨v', o', hv', -⟩ := HT1.out.vw HB1.out
  have HV := Lib.hid hv'
  clear hr1 hc1 hv'
  go_wp2_with fail
  refine (VD.out _ _ _ HV.out).mono ?_
  rintro e w2 ⟨v2, rfl, hr2, hc2⟩
  have HR2 := Lib.hid hr2
  have HC2 := Lib.hid (HC1.out.trans hc2 fun _ _ => id)
  have HT2 := Lib.hid (HT1.out.still hc2)
  have HB2 := Lib.hid (Nat.le_trans HBS.out HC2.out.size)
  obtain ⟨o2, c2, rfl, -⟩ := row_form hr2
  have HS1 := Lib.hid (SM.out w2 _ _ (row_bytes (row_frame HR1.out hc2 fun _ _ => id) HBY.out) (row_bytes hr2 HBY.out))
  clear hr2 hc2
  go_wp2_with fail
  refine HS1.out.mono ?_
  rintro e w3 ⟨rfl, hc3⟩
  have HC3 := Lib.hid (HC2.out.trans hc3 fun _ _ => id)
  have HR3 := Lib.hid (row_frame HR2.out hc3 fun _ _ => id)
  have HT3 := Lib.hid (HT2.out.still hc3)
  have HB3 := Lib.hid (Nat.le_trans HBS.out HC3.out.size)
  obtain ⟨m3, v3, hw3, -⟩ := HT3.out.wr HB3.out
  have HW3 := Lib.hid hw3
  clear hc3 hw3 HS1
  go_wp2_with fail
  refine (WD.out _ _ _ HW3.out).mono ?_
  rintro e w4 ⟨v4, rfl, hr4, hc4⟩
  have HT4 := Lib.hid (HT3.out.addRow HB3.out hc4 hr4)
  have HC4 := Lib.hid (HC3.out.trans hc4 fun _ _ => id)
  have HB4 := Lib.hid (Nat.le_trans HBS.out HC4.out.size)
  obtain ⟨o4, c4, rfl, -⟩ := row_form hr4
  have HS4 := Lib.hid (SM.out w4 _ _ (row_bytes hr4 HBY.out) (row_bytes (row_frame HR3.out hc4 fun _ _ => id) HBY.out))
  clear hr4 hc4
  go_wp2_with fail
  refine HS4.out.mono ?_
  rintro e w5 ⟨rfl, hc5⟩
  have HC5 := Lib.hid (HC4.out.trans hc5 fun _ _ => id)
  have HT5 := Lib.hid ((HT4.out.still hc5).perm (List.Perm.swap _ _ _))
  have HB5 := Lib.hid (Nat.le_trans HBS.out HC5.out.size)
  have HO5 := Lib.hid (HT5.out.owns HB5.out HBY.out (by have := HFW.out; omega) HF.out (by have := HN.out; omega))
  clear hc5 HS4
  go_wp2_with fail
  refine HO5.out.mono ?_
  rintro e w6 ⟨rfl, ⟨bs6, hf6, hT6⟩, hc6⟩
  have HC6 := Lib.hid (show Chg (fun i => base ≤ i) w w6 from (HC5.out.mono fun _ _ h => h.elim).trans hc6 fun _ _ h => h)
  have HB6 := Lib.hid (Nat.le_trans HBS.out HC6.out.size)
  have HO6 := Lib.hid (hT6.owns HB6.out HBY.out (by have := HFW.out; omega) hf6 (by have := HN.out; omega))
  clear hf6 hT6 hc6 HO5
  go_wp2_with fail
  refine HO6.out.mono ?_
  rintro e w7 ⟨rfl, ⟨bs7, hf7, hT7⟩, hc7⟩
  have HC7 := Lib.hid (HC6.out.trans hc7 fun _ _ h => h)
  have HB7 := Lib.hid (Nat.le_trans HBS.out HC7.out.size)
  have HT7 := Lib.hid hT7
  have HF7 := Lib.hid hf7
  obtain ⟨m7, u7, hw7, -⟩ := hT7.wr HB7.out
  obtain ⟨x7, y7, hv7, -⟩ := hT7.vw HB7.out
  have HLN := Lib.hid (fun (k : Nat) => (show Calls Tryd.prog 59 #[.pointer (some ⟨b, 0, none⟩)] (w7.drewN k) fun e w' => e = .returned (.int .i64 s.xs.length) ∧ w' = w7.drewN k from (wlen_ok (hw7.frame ((Chg.refl (fun _ => False) w7).drewN k) fun _ _ => id)).mono fun _ _ h => ⟨h.1, h.2.symm⟩))
  obtain ⟨yb, -, y1, -⟩ := hv7.facts
  obtain ⟨oB, cB, rfl, -⟩ := row_form hv7.row
  clear hf7 hT7 hc7 HO6 hw7 hv7
  go_upto_region 8 with (fail)
  go_quiet ((go_at_call 59; refine Calls.quiet_of_same (HLN.out _)))
  go_wp2
  go_ret
  exact ⟨rfl, ⟨bs7, HF7.out, HT7.out.still ((Chg.refl _ _).drewN _)⟩, HC7.out.trans ((Chg.refl (fun _ => False) w7).drewN _) fun _ _ h => h.elim⟩
end Go.Proofs.YtfihpiommicdbaaDoor
