/- The law's pair of readers: what a step leaves. No condition. -/
import Derived.Test.YtfihpiommicdbaaDoorWirBE
import Derived.Test.YtfihpiommicdbaaDoorWirH
import Derived.Test.YtfihpiommicdbaaDoorWirM
namespace Go.Proofs.YtfihpiommicdbaaDoor
open Go.RowKit Go.Cl
set_option linter.unusedVariables false
set_option linter.unusedSimpArgs false
attribute [local go_sem] lt_add_one' blk_alloc_past blk_alloc_at blk_drew blk_setCell_ne

/-- A reader among things that lie apart; the document's. -/
def rdT (base b : Nat) (v : Value) (s : RS) : Thing := ⟨fun w => RdIs w base b v s, RFoot b v, fun h hc hs => h.frame hc hs, fun h hi => (h.foot hi).2⟩
def vdT (base b : Nat) (v : Value) (s : RS) : Thing := ⟨fun w => VdIs w base b v s, RFoot b v, fun h hc hs => h.frame hc hs, fun h hi => (h.foot hi).2⟩
theorem _root_.Go.Cl.Sep.rd {base b : Nat} {w w' : World} {v : Value} {s s' : RS} {R : List Thing} (A : List Thing) (h : Sep base w (A ++ rdT base b v s :: R)) (hb : base ≤ w.heap.size) (hg : RGoes w w' base b v s') : Sep base w' (A ++ rdT base b v s' :: R) ∧ Chg (fun i => base ≤ i) w w' :=
  ⟨h.putAt A hb hg.2 (fun i _ hi => .inl hi) hg.1 fun i hi => .inl hi, hg.2.mono fun i _ hi => h.above (rdT base b v s) (by simp) i (.inl hi)⟩
theorem _root_.Go.Cl.Sep.vd {base b : Nat} {w w' : World} {v : Value} {s s' : RS} {R : List Thing} (A : List Thing) (h : Sep base w (A ++ vdT base b v s :: R)) (hb : base ≤ w.heap.size) (hg : VGoes w w' base b v s') : Sep base w' (A ++ vdT base b v s' :: R) ∧ Chg (fun i => base ≤ i) w w' :=
  ⟨h.putAt A hb hg.2 (fun i _ hi => .inl hi) hg.1 fun i hi => .inl hi, hg.2.mono fun i _ hi => h.above (vdT base b v s) (by simp) i (.inl hi)⟩
/-- What lies beside the book turns. -/
theorem BookAt.step {base B : Nat} {w w' : World} {bs : BS} {R R' : List Thing} (h : BookAt base w B bs R) {C : Prop} (f : ∀ Z, Sep base w (Z ++ R) → Sep base w' (Z ++ R') ∧ C) : BookAt base w' B bs R' ∧ C := by
  obtain ⟨lv, mv, fv, wv, hv, tv, D, h⟩ := h
  have h1 := f (core base B lv mv fv wv hv tv D bs ++ (rowsOf base bs.held ++ rowsOf base bs.fresh)) (by simpa [List.append_assoc] using h)
  exact ⟨⟨lv, mv, fv, wv, hv, tv, D, by simpa [List.append_assoc] using h1.1⟩, h1.2⟩
theorem BookAt.still {base B : Nat} {w w' : World} {bs : BS} {R : List Thing} (h : BookAt base w B bs R) (hc : Chg (fun _ => False) w w') : BookAt base w' B bs R := (h.step (C := True) fun Z hz => ⟨hz.frame hc, trivial⟩).1
theorem BookAt.mem {base B : Nat} {w : World} {bs : BS} {R : List Thing} (h : BookAt base w B bs R) {t : Thing} (ht : t ∈ R) : t.holds w := by
  obtain ⟨lv, mv, fv, wv, hv, tv, D, h⟩ := h
  exact h.all t (by simp [ht])
theorem BookAt.rd {base B b : Nat} {w w' : World} {bs : BS} {v : Value} {s s' : RS} {R : List Thing} (h : BookAt base w B bs (rdT base b v s :: R)) (hb : base ≤ w.heap.size) (hg : RGoes w w' base b v s') : BookAt base w' B bs (rdT base b v s' :: R) ∧ Chg (fun i => base ≤ i) w w' :=
  h.step fun Z hz => hz.rd Z hb hg
theorem BookAt.vd {base B b : Nat} {w w' : World} {bs : BS} {x : Thing} {v : Value} {s s' : RS} {R : List Thing} (h : BookAt base w B bs (x :: vdT base b v s :: R)) (hb : base ≤ w.heap.size) (hg : VGoes w w' base b v s') : BookAt base w' B bs (x :: vdT base b v s' :: R) ∧ Chg (fun i => base ≤ i) w w' :=
  h.step fun Z hz => by
    have h1 := (show Sep base w ((Z ++ [x]) ++ vdT base b v s :: R) by simpa [List.append_assoc] using hz).vd _ hb hg
    exact ⟨by simpa [List.append_assoc] using h1.1, h1.2⟩
/-- Both readers do the same. -/
theorem BookAt.both {base B b b' : Nat} {w w1 w2 : World} {bs : BS} {v v' : Value} {s s' : RS} {R : List Thing} (h : BookAt base w B bs (rdT base b v s :: vdT base b' v' s :: R)) (hb : base ≤ w.heap.size) (hg : RGoes w w1 base b v s') (hg2 : VGoes w1 w2 base b' v' s') : BookAt base w2 B bs (rdT base b v s' :: vdT base b' v' s' :: R) ∧ Chg (fun i => base ≤ i) w w2 := by
  obtain ⟨h1, c1⟩ := h.rd hb hg
  obtain ⟨h2, c2⟩ := h1.vd (Nat.le_trans hb c1.size) hg2
  exact ⟨h2, c1.trans c2 fun _ _ h => h⟩
/-- What a step makes of a reader. -/
def RS.stepped (s : RS) (kd k : Int) : RS :=
  if kd = 1 then s.next 1 else if kd = 2 then s.next 2 else if kd = 3 then s.next 4 else if kd = 4 then s.next 8 else if kd = 5 then s.rawS k else if kd = 6 then s.textS k else if kd = 7 then s.padS k else if kd = 9 then s.end else if kd = 11 then (if k = 0 then s else s.fail k s.pos) else s
end Go.Proofs.YtfihpiommicdbaaDoor
