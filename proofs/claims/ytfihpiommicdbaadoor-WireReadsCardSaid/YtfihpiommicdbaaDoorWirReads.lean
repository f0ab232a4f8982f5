/- WireReads: a reader of any bytes, parts of it, scripts of all calls. No condition but the table's place. -/
import Derived.Test.YtfihpiommicdbaaDoorWirBI
import Derived.Test.YtfihpiommicdbaaDoorWirBD
import Derived.Test.YtfihpiommicdbaaDoorWirO
import Derived.Test.YtfihpiommicdbaaDoorWirK
namespace Go.Proofs.YtfihpiommicdbaaDoor
open Go.RowKit Go.Cl
set_option linter.unusedVariables false
set_option linter.unusedSimpArgs false
attribute [local go_sem] lt_add_one' blk_alloc_past blk_alloc_at blk_drew blk_setCell_ne

theorem _root_.Go.Cl.Sep.noFoot {base : Nat} {w : World} {t : Thing} {L : List Thing} (h : Sep base w L) (ht : t.holds w) (hf : ∀ i, ¬ t.foot i) : Sep base w (t :: L) := by
  refine ⟨fun u hu => ?_, fun u hu i hi => ?_, List.pairwise_cons.2 ⟨fun u hu i hi hj => hf i hi, h.apart⟩⟩
  · rcases List.mem_cons.1 hu with rfl | hu
    · exact ht
    · exact h.all u hu
  · rcases List.mem_cons.1 hu with rfl | hu
    · exact (hf i hi).elim
    · exact h.above u hu i hi
/-- A new book. -/
theorem book_new {base n0 B : Nat} {w : World} {R : List Thing} (h : Sep base w R) (hB : blk w B = some (.cells #[.slice none 0 0, .slice none 0 0, .slice none 0 0, .slice none 0 0, .slice none 0 0, .slice none 0 0] 43 (0, 0))) (hold : ∀ t ∈ R, ∀ i, t.foot i → i < n0) (hn : n0 ≤ B) (hb : base ≤ n0) : BookAt base w B ⟨[], [], []⟩ R := by
  have hm : (markT (fun _ => False) []).holds w := by unfold markT; exact ⟨by simp, fun i hi => hi.elim⟩
  have h1 := h.noFoot hm fun i hi => hi
  have h2 := (((((h1.nilRow 24 1).nilRow 24 1).nilRow 24 1).nilRow 24 1).nilRow 5 1).nilRow 24 1
  have h3 := h2.add (u := blkT B (.cells #[.slice none 0 0, .slice none 0 0, .slice none 0 0, .slice none 0 0, .slice none 0 0, .slice none 0 0] 43 (0, 0))) (n0 := n0) (fun t ht i hi => by
    have nof : ∀ (e : TypeId), ¬ (rowT base e 1 (.slice none 0 0) 0 []).foot i := fun e hf => by
      have hf : some i = none := hf
      cases hf
    simp only [List.mem_cons] at ht
    rcases ht with rfl | rfl | rfl | rfl | rfl | rfl | rfl | ht
    · exact (nof _ hi).elim
    · exact (nof _ hi).elim
    · exact (nof _ hi).elim
    · exact (nof _ hi).elim
    · exact (nof _ hi).elim
    · exact (nof _ hi).elim
    · exact (show False from hi).elim
    · exact hold t ht i hi) hB (fun i hi => by
      have hi : i = B := hi
      omega) hb
  exact ⟨_, _, _, _, _, _, _, h3⟩

theorem BookAt.stillTo {base B b : Nat} {w wq w1 : World} {bs : BS} {v : Value} {s' : RS} {R : List Thing} (hg : RGoes wq w1 base b v s') (h : BookAt base w B bs R) (hc : Chg (fun _ => False) w wq) : BookAt base wq B bs R := h.still hc
/-- A part of both readers, with something made between the calls. -/
theorem BookAt.part2 {base B b b' b1 b2 : Nat} {w w1 w1' w2 : World} {bs : BS} {v v' v1 v2 : Value} {s s' s1 : RS} {R : List Thing} (hg2 : VGoes w1' w2 base b' v' s') (h2 : VdIs w2 w1'.heap.size b2 v2 s1) (h : BookAt base w B bs (rdT base b v s :: vdT base b' v' s :: R)) (hb : base ≤ w.heap.size) (hg : RGoes w w1 base b v s') (h1 : RdIs w1 w.heap.size b1 v1 s1) (hc : Chg (fun _ => False) w1 w1') :
    BookAt base w2 B bs (rdT base b v s' :: vdT base b' v' s' :: rdT base b1 v1 s1 :: vdT base b2 v2 s1 :: R) ∧ Chg (fun i => base ≤ i) w w2 :=
  h.part hb (show RGoes w w1' base b v s' from ⟨hg.1.frame hc fun _ _ => id, hg.2.trans hc fun _ _ h => h.elim⟩) (h1.frame hc fun _ _ => id) hg2 h2

/-- A block that is made stands beside the book. -/
theorem BookAt.addBlk {base B : Nat} {w : World} {bs : BS} {R : List Thing} (h : BookAt base w B bs R) (hb : base ≤ w.heap.size) (cs : Array Value) (t : TypeId) : BookAt base (w.alloc (.cells cs t (0, 0))) B bs (blkT w.heap.size (.cells cs t (0, 0)) :: R) :=
  (h.step (C := True) fun Z hz => ⟨by
    have h1 : Sep base (w.alloc (.cells cs t (0, 0))) (Z ++ R) := hz.frame ((Chg.refl _ _).alloc _)
    have h2 := h1.add (u := blkT w.heap.size (.cells cs t (0, 0))) (n0 := w.heap.size) (fun u hu i hi => u.old (hz.all u hu) hi) (blk_alloc_at _ _ _ rfl) (fun i hi => by
      have hi : i = w.heap.size := hi
      omega) hb
    exact h2.perm List.perm_middle.symm, trivial⟩).1
/-- A cell of a block beside the book is written. -/
theorem BookAt.blkCell {base B P i : Nat} {w : World} {bs : BS} {R : List Thing} {cs cs' : Array Value} {t : TypeId} {x : Value} (h : BookAt base w B bs (blkT P (.cells cs t (0, 0)) :: R)) (hb : base ≤ w.heap.size) (he : objSet i x (.cells cs t (0, 0)) = .cells cs' t (0, 0)) : BookAt base (w.setCell ⟨P, i, none⟩ x) B bs (blkT P (.cells cs' t (0, 0)) :: R) :=
  (h.step (C := True) fun Z hz => ⟨((hz.perm List.perm_middle).cell hb he).perm List.perm_middle.symm, trivial⟩).1

/-- What looks leaves of a book with few lists. -/
theorem looks_few {base B m : Nat} {w : World} {bs : BS} {R : List Thing} (h : BookAt base w B bs R) (hb : base ≤ w.heap.size) (hf : bs.few m) (hm : m ≤ 1000000) : Calls Tryd.prog 21 #[.pointer (some ⟨B, 0, none⟩)] w fun e w' => e = .returned (.bool true) ∧ (∃ bs', bs'.few m ∧ BookAt base w' B bs' R) ∧ Chg (fun i => base ≤ i) w w' :=
  (looks_ok h hb (hf.small hm)).mono fun e w' he => ⟨he.1, by
    obtain ⟨L', h1, h2, h3⟩ := he.2.1
    exact ⟨_, hf.looks h2 h3, h1⟩, he.2.2⟩

/-- A pair of readers: their blocks, their bytes' values, their state. -/
abbrev Rdr := Nat × Nat × Value × Value × RS
def thingsOf (base : Nat) (rs : List Rdr) : List Thing := rs.flatMap fun r => [rdT base r.1 r.2.2.1 r.2.2.2.2, vdT base r.2.1 r.2.2.2.1 r.2.2.2.2]
def cellsOf (rs : List Rdr) : List Value := rs.flatMap fun r => [.pointer (some ⟨r.1, 0, none⟩), .pointer (some ⟨r.2.1, 0, none⟩)]

theorem cells_at : ∀ (rs : List Rdr) (p : Nat) (r : Rdr), rs[p]? = some r → (cellsOf rs)[p * 2]? = some (.pointer (some ⟨r.1, 0, none⟩)) ∧ (cellsOf rs)[p * 2 + 1]? = some (.pointer (some ⟨r.2.1, 0, none⟩)) := by
  intro rs
  induction rs with
  | nil => intro p r h; simp at h
  | cons a l ih =>
    intro p r h
    cases p with
    | zero => simp at h; subst h; exact ⟨rfl, rfl⟩
    | succ p =>
      have h1 := ih p r (by simpa using h)
      rw [show (p + 1) * 2 = p * 2 + 2 by omega]
      exact h1
theorem cells_len (rs : List Rdr) : (cellsOf rs).length = rs.length * 2 := by
  induction rs with
  | nil => rfl
  | cons a l ih => simp [cellsOf] at ih ⊢; omega
theorem things_mem {base : Nat} {rs : List Rdr} {r : Rdr} (h : r ∈ rs) : rdT base r.1 r.2.2.1 r.2.2.2.2 ∈ thingsOf base rs ∧ vdT base r.2.1 r.2.2.2.1 r.2.2.2.2 ∈ thingsOf base rs := by
  unfold thingsOf
  constructor <;> exact List.mem_flatMap.2 ⟨r, h, by simp⟩
/-- One pair is taken out. -/
theorem things_out {base : Nat} {rs : List Rdr} {p : Nat} {r : Rdr} (h : rs[p]? = some r) (x : Thing) (r' : Rdr) (e1 : r'.1 = r.1) (e2 : r'.2.1 = r.2.1) :
    (x :: thingsOf base rs).Perm (rdT base r.1 r.2.2.1 r.2.2.2.2 :: vdT base r.2.1 r.2.2.2.1 r.2.2.2.2 :: (x :: (thingsOf base (rs.take p) ++ thingsOf base (rs.drop (p + 1))))) ∧
    (rdT base r'.1 r'.2.2.1 r'.2.2.2.2 :: vdT base r'.2.1 r'.2.2.2.1 r'.2.2.2.2 :: (x :: (thingsOf base (rs.take p) ++ thingsOf base (rs.drop (p + 1))))).Perm (x :: thingsOf base (rs.set p r')) ∧ cellsOf (rs.set p r') = cellsOf rs := by
  obtain ⟨hp, he⟩ := List.getElem?_eq_some_iff.1 h
  have hs : rs = rs.take p ++ r :: rs.drop (p + 1) := by rw [← he, List.getElem_cons_drop, List.take_append_drop]
  have hs2 : rs.set p r' = rs.take p ++ r' :: rs.drop (p + 1) := by
    rw [List.set_eq_take_append_cons_drop, if_pos hp]
  have ht : ∀ (q : Rdr), thingsOf base (rs.take p ++ q :: rs.drop (p + 1)) = thingsOf base (rs.take p) ++ (rdT base q.1 q.2.2.1 q.2.2.2.2 :: vdT base q.2.1 q.2.2.2.1 q.2.2.2.2 :: thingsOf base (rs.drop (p + 1))) := fun q => by simp [thingsOf]
  have hpm : ∀ (a c : Thing) (X Y : List Thing), (x :: (X ++ (a :: c :: Y))).Perm (a :: c :: (x :: (X ++ Y))) := fun a c X Y =>
    (List.perm_middle (l₁ := x :: X) (a := a) (l₂ := c :: Y)).trans (.cons _ (List.perm_middle (l₁ := x :: X) (a := c) (l₂ := Y)))
  refine ⟨?_, ?_, ?_⟩
  · conv => lhs; rw [hs, ht]
    exact hpm _ _ _ _
  · rw [hs2, ht]
    exact (hpm _ _ _ _).symm
  · rw [hs2]
    conv => rhs; rw [hs]
    simp [cellsOf, e1, e2]

/-- A row beside the book grows. -/
theorem BookAt.app {base B : Nat} {w w' : World} {bs : BS} {e : TypeId} {size n n' : Nat} {v v' : Value} {xs xs' : List Value} (A : List Thing) {R : List Thing} (h : BookAt base w B bs (A ++ rowT base e size v n xs :: R)) (hb : base ≤ w.heap.size) (hown : w'.ownsRow base e size v' n' xs') (hg : w.grownBy w' v.ownBlock) (hl : v'.ownBlock = v.ownBlock ∨ v'.ownBlock = some w.heap.size) : BookAt base w' B bs (A ++ rowT base e size v' n' xs' :: R) ∧ Chg (fun i => base ≤ i) w w' :=
  h.step fun Z hz => by
    have h1 := (show Sep base w ((Z ++ A) ++ rowT base e size v n xs :: R) by simpa [List.append_assoc] using hz).app2 _ hb hown hg hl
    exact ⟨by simpa [List.append_assoc] using h1.1, h1.2⟩
theorem pair_in {a b c d x : Thing} {T T' : List Thing} (h : (a :: b :: x :: T).Perm (x :: T')) : (a :: b :: c :: d :: x :: T).Perm (x :: (T' ++ [c, d])) := by
  have h1 : (a :: b :: c :: d :: x :: T).Perm ((a :: b :: x :: T) ++ [c, d]) := .cons _ (.cons _ (List.perm_append_comm (l₁ := [c, d]) (l₂ := x :: T)))
  exact h1.trans (h.append_right [c, d])
theorem partS_xs (s : RS) : s.partS.xs = s.xs := by
  unfold RS.partS RS.back
  split
  · split
    · rw [next_xs, next_xs]
    · show ((s.next 4).next s.partN).xs = _
      rw [next_xs, next_xs]
  · rfl
theorem partR_few (s : RS) : s.partR.xs.length ≤ s.xs.length := by
  unfold RS.partR
  split
  · show ((s.next 4).took s.partN).length ≤ _
    have h := took_few (s.next 4) s.partN
    rw [next_xs] at h
    exact h
  · simp
set_option maxRecDepth 100000 in
theorem infopz : ∃ i, Tryd.prog.info? 61 = some i ∧ i.zero = some (.agg #[.pointer none, .pointer none]) ∧ i.size = 2 ∧ i.bytes = 16 := ⟨_, rfl, by kernel_rfl, by kernel_rfl, by kernel_rfl⟩

set_option maxHeartbeats 8000000 in
set_option maxRecDepth 100000 in
theorem reads_walk (w : World) (hT : TableAt w) {v : Value} {xs : List Int} (hx : BytesIs w v xs) (hsm : xs.length ≤ 140737488355328) {v1 : Value} {ps : List OpT} (hp : OpsAre w v1 ps) :
    Calls Tryd.prog 6 #[v, v1] w fun e w' => e = .returned (.bool true) ∧ Chg (fun _ => False) w w' := by
  obtain ⟨oa, cap, rfl, hl1, hl2, hps⟩ := hp
  have HP := Lib.hid hps
  have HK := Lib.hid (known_ok hT)
  have HX := Lib.hid hx
  obtain ⟨ob, c, rfl, hc1, hc2, -⟩ := hx
  have HC12 := Lib.hid (And.intro hc1 hc2)
  unfold maxLen at hl2 hc2
  clear hT hps
  go_enter Tryd.func6, Tryd.ntmps6
  go_wp2_with fail
  refine HK.out.mono ?_
  rintro e w1 ⟨rfl, hc⟩
  have HC := Lib.hid hc
  have HX1 := Lib.hid (HX.out.frame hc fun _ _ => id)
  clear hc HK
  go_upto_if 24 with (fail)
  go_cut [0] from 21 to 132 (fun s0 wq => ∃ (ob : Option Addr) (c : Nat) (ys : List Int), s0 = .slice ob ys.length c ∧ BytesIs wq (.slice ob ys.length c) ys ∧ ys.length ≤ 20000 ∧ wq = w1)
  case first =>
    by_cases hl : 20000 < xs.length
    · have hl' : (20000 : Int) < (xs.length : Int) := by omega
      have hl3 : (20000 : Int) ≤ (c : Int) := by omega
      have HL := Lib.hid hl
      clear hl
      go_wp2
      go_meet
      case rel =>
        have el : (xs.take 20000).length = 20000 := by rw [List.length_take]; have := HL.out; omega
        refine ⟨ob, c, xs.take 20000, by rw [el], ?_, by rw [el]; exact Nat.le_refl _, rfl⟩
        obtain ⟨o2, c2, e2, h1, h2, h3, h4⟩ := HX1.out
        simp only [Value.slice.injEq, true_and] at e2
        obtain ⟨rfl, rfl⟩ := e2
        refine ⟨ob, c, rfl, by rw [el]; have := HL.out; omega, h2, h3, fun j u hj => h4 j u ?_⟩
        have hj2 := (List.getElem?_eq_some_iff.1 hj).1
        rw [List.getElem?_take_of_lt (by omega)] at hj
        exact hj
    · have hl' : ¬ ((20000 : Int) < (xs.length : Int)) := by omega
      go_wp2
      go_meet
      case rel => exact ⟨ob, c, xs, rfl, HX1.out, by omega, rfl⟩
  case rest =>
    obtain ⟨ob2, c2, ys, rfl, hb, hyl, rfl⟩ := hcut
    have HB := Lib.hid hb
    have HYL := Lib.hid hyl
    have HLN := Lib.hid (lent_ok hb (by omega))
    obtain ⟨_, _, e9, hd1, hd2, -⟩ := hb
    simp only [Value.slice.injEq, true_and] at e9
    obtain ⟨rfl, rfl⟩ := e9
    have HD := Lib.hid (And.intro hd1 hd2)
    clear HX HX1 hc1 hc2 hsm hd1 hd2
    go_wp2_with fail
    refine HLN.out.mono ?_
    rintro e w2 ⟨lv, rfl, hrow, hcl⟩
    obtain ⟨g, gc, gcur, rfl, hgb, hgc1, hgc2, -⟩ := row_at hrow (by omega)
    have HROW := Lib.hid (show w2.ownsRow wc.heap.size 5 1 (.slice (some ⟨g, 0, none⟩) (ys.length + 2) gc) (ys.length + 2) (u8s (marked ys)) from hrow)
    have hrc := row_cut HROW.out (show ys.length ≤ ys.length + 2 by omega)
    have e1 : (u8s (marked ys)).take (ys.length * 1) = u8s ys := by unfold marked u8s; simp
    rw [e1] at hrc
    have HNR := Lib.hid (newR_ok (row_bytes hrc HB.out.byte) (by omega))
    have HCL := Lib.hid hcl
    have HGB := Lib.hid hgb
    have hg9 : ys.length ≤ gc := by omega
    clear hrow hcl hrc e1 HLN hgb
    go_wp2_with fail
    refine HNR.out.mono ?_
    rintro e w3 ⟨b, rv, rfl, hr, hc3⟩
    have HR3 := Lib.hid hr
    have HC3 := Lib.hid hc3
    have HKP := Lib.hid (kept_ok (row_frame HROW.out hc3 fun _ _ => id) ((HB.out.frame HCL.out fun _ _ => id).frame hc3 fun _ _ => id))
    have hgl : g < w2.heap.size := by
      obtain ⟨_, cur, hcu⟩ := row_block HROW.out (g := g) rfl
      exact blk_lt hcu
    have HGL := Lib.hid hgl
    clear hr hc3 hgl HNR
    go_wp2_with fail
    refine HKP.out.mono ?_
    rintro e w4 ⟨rfl, -, hc4⟩
    have HR4 := Lib.hid (show RdIs w4 w2.heap.size b rv (RS.zero ys) from HR3.out.frame hc4 fun i hi e => by
      have := (HR3.out.foot hi).1
      have := HGL.out
      omega)
    have hsz34 := hc4.size
    have HC4 := Lib.hid (show Chg (fun i => i = g) wc w4 from ((HCL.out.trans HC3.out fun _ _ => id).mono fun _ _ h => h.elim).trans hc4 fun _ _ h => h)
    have HNV := Lib.hid (newV_ok (HB.out.frame HC4.out fun i hi e => by have := HGB.out; omega) (by omega))
    clear hc4 HKP
    go_wp2_with fail
    refine HNV.out.mono ?_
    rintro e w5 ⟨b', rv', rfl, hv5, hc5⟩
    have HV5 := Lib.hid hv5
    have HC5 := Lib.hid hc5
    clear hv5 hc5 HNV
    go_upto_region 11 with (fail)
    obtain ⟨wz, hwz⟩ : ∃ wz, wz = (w5.alloc (.cells #[.pointer (some ⟨b, 0, none⟩), .pointer (some ⟨b', 0, none⟩)] 61 (0, 0))).alloc (.cells #[.slice none 0 0, .slice none 0 0, .slice none 0 0, .slice none 0 0, .slice none 0 0, .slice none 0 0] 43 (0, 0)) := ⟨_, rfl⟩
    obtain ⟨A, hA⟩ : ∃ A, A = w5.heap.size := ⟨_, rfl⟩
    have hcz : Chg (fun _ => False) w5 wz := by rw [hwz]; exact ((Chg.refl _ _).alloc _).alloc _
    have hbA : blk wz A = some (.cells #[.pointer (some ⟨b, 0, none⟩), .pointer (some ⟨b', 0, none⟩)] 61 (0, 0)) := by rw [hwz, hA, blk_alloc_past _ _ _ (by simp)]; exact blk_alloc_at _ _ _ rfl
    have hbB : blk wz (A + 1) = some (.cells #[.slice none 0 0, .slice none 0 0, .slice none 0 0, .slice none 0 0, .slice none 0 0, .slice none 0 0] 43 (0, 0)) := by rw [hwz, hA]; exact blk_alloc_at _ _ _ (by simp)
    rw [← hwz, ← hA]
    have hs1 : w.heap.size ≤ wc.heap.size := HC.out.size
    have hs2 := HCL.out.size
    have hs4 := HC4.out.size
    have hs24 : w2.heap.size ≤ w4.heap.size := by
      have h1 := (HR4.out.foot (i := b) (.inl rfl))
      have h3 := HC3.out.size
      have h5 := HC5.out.size
      have := HGL.out
      have h6 : w3.heap.size ≤ w4.heap.size := hsz34
      omega
    have hs5 := HC5.out.size
    have S1 : Sep w.heap.size wz [rdT w.heap.size b rv (RS.zero ys)] := (Sep.nil _ _).add (n0 := w2.heap.size) (fun t ht => by cases ht) ((HR4.out.frame (HC5.out.trans hcz fun _ _ => id) fun _ _ => id).lower (by omega)) (fun i hi => (HR4.out.foot hi).1) (by omega)
    have S2 : Sep w.heap.size wz (vdT w.heap.size b' rv' (RS.zero ys) :: [rdT w.heap.size b rv (RS.zero ys)]) := S1.add (n0 := w4.heap.size) (fun t ht i hi => by
      simp only [List.mem_cons, List.not_mem_nil, or_false] at ht
      subst ht
      exact (HR4.out.foot hi).2) ((HV5.out.frame hcz fun _ _ => id).lower (by omega)) (fun i hi => (HV5.out.foot hi).1) (by omega)
    have S3 : Sep w.heap.size wz (rowT w.heap.size 61 2 (.slice (some ⟨A, 0, none⟩) 1 1) 1 (cellsOf [(b, b', rv, rv', RS.zero ys)]) :: thingsOf w.heap.size [(b, b', rv, rv', RS.zero ys)]) := by
      have h := S2.add (u := rowT w.heap.size 61 2 (.slice (some ⟨A, 0, none⟩) 1 1) 1 (cellsOf [(b, b', rv, rv', RS.zero ys)])) (n0 := w5.heap.size) (fun t ht i hi => by
        simp only [List.mem_cons, List.not_mem_nil, or_false] at ht
        rcases ht with rfl | rfl
        · exact (HV5.out.foot hi).2
        · exact Nat.lt_of_lt_of_le (HR4.out.foot hi).2 hs5) ⟨rfl, .inr ⟨A, 1, _, rfl, by omega, hbA, by omega, by decide, rfl, rfl⟩⟩ (fun i hi => by
          have hi : some i = some A := hi
          cases hi
          omega) (by omega)
      exact h.perm (.cons _ (List.Perm.swap _ _ _))
    have HBK := Lib.hid (book_new S3 hbB (n0 := A + 1) (fun t ht i hi => by
      simp only [thingsOf, List.flatMap_cons, List.flatMap_nil, List.cons_append, List.nil_append, List.append_nil, List.mem_cons, List.not_mem_nil, or_false] at ht
      rcases ht with rfl | rfl | rfl
      · have hi : some i = some A := hi
        cases hi
        omega
      · have := (HR4.out.foot hi).2; omega
      · have := (HV5.out.foot hi).2; omega) (Nat.le_refl _) (by omega))
    have HCZ := Lib.hid (show Chg (fun i => w.heap.size ≤ i) w wz from (((HC.out.mono fun _ _ h => h.elim).trans HC4.out fun i hi (e : i = g) => (show w.heap.size ≤ i by have := HGB.out; omega)).trans (HC5.out.trans hcz fun _ _ => id) fun _ _ h => h.elim))
    clear hwz hA hcz hbA hbB hs1 hs2 hs4 hs24 hs5 hsz34 S1 S2 S3 hg9 hgc1 hgc2 hyl
    go_wp2
    go_loopg [9, 11] 200 (fun g s9 s11 wr => ∃ (i : Nat) (rs : List Rdr) (bs : BS) (av : Value), i + g = 200 ∧ s11 = .int .i64 i ∧ s9 = av ∧ 0 < rs.length ∧ rs.length ≤ 8 ∧ (∀ r ∈ rs, r.2.2.2.2.xs.length ≤ 20000) ∧ bs.few (2 * i) ∧ BookAt w.heap.size wr (A + 1) bs (rowT w.heap.size 61 2 av rs.length (cellsOf rs) :: thingsOf w.heap.size rs) ∧ Chg (fun i => w.heap.size ≤ i) w wr)
    case atStart => exact ⟨0, [(b, b', rv, rv', RS.zero ys)], ⟨[], [], []⟩, _, by omega, rfl, rfl, Nat.zero_lt_one, by simp, by
      intro r hr
      simp only [List.mem_cons, List.not_mem_nil, or_false] at hr
      subst hr
      exact HYL.out, ⟨by simp, by simp, by simp⟩, HBK.out, HCZ.out⟩
    case round =>
      obtain ⟨i, rs, bs, av, hig, rfl, rfl, hr0, hr8, hrx, hfew, hbk, hch⟩ := hrel
      have HIG := Lib.hid hig
      have HRX := Lib.hid hrx
      have HFEW := Lib.hid hfew
      have HBKr := Lib.hid hbk
      have HCH := Lib.hid hch
      have HR08 := Lib.hid (And.intro hr0 hr8)
      have HLK := Lib.hid (looks_few hbk (Nat.le_trans (Nat.le_refl _) hch.size) hfew (by omega))
      have HI2 := Lib.hid (show 2 * i ≤ 1000000 by omega)
      clear hrx hfew hbk hch hr0 hr8
      by_cases q1 : i < ps.length
      · have q1' : (i : Int) < (ps.length : Int) := by omega
        by_cases q2 : i < 200
        · have q2' : (i : Int) < 200 := by omega
          obtain ⟨g0, o0, bv, rfl, e0, e1, e2, e3, e4, hb, hok⟩ := HP.out i _ (List.getElem?_eq_getElem q1)
          generalize ps[i] = p at *
          obtain ⟨y, n, K, Bq, Sq⟩ := p
          obtain ⟨k0, k1, k2, k3, k4⟩ := hok
          dsimp only at e0 e1 e2 e3 e4 k0 k1 k2 k3 k4
          have fold : ∀ (j : Nat), j < w.heap.size → ¬ (w.heap.size ≤ j) := fun j h1 h2 => by omega
          have d0 := cell_frame HCH.out fold e0
          have d1 := cell_frame HCH.out fold e1
          have d2 := cell_frame HCH.out fold e2
          have d3 := cell_frame HCH.out fold e3
          have d4 := cell_frame HCH.out fold e4
          have HK := Lib.hid k3
          have HI := Lib.hid q1
          obtain ⟨z, hz⟩ : ∃ z, z = n % 1000003 := ⟨_, rfl⟩
          have hz1 : n.tmod 1000003 = z := by rw [hz, Int.tmod_eq_emod_of_nonneg (by omega)]
          have hz2 : n % 1000003 = z := hz.symm
          have hzb : 0 ≤ z ∧ z < 1000003 := by omega
          have wz1 : IntKind.i64.wrap z = z := by rw [IntKind.wrap_i64]; omega
          obtain ⟨oq, cq, rfl, -⟩ := hb
          have hrow : wr.ownsRow w.heap.size 61 2 u9 rs.length (cellsOf rs) := HBKr.out.mem (t := rowT w.heap.size 61 2 u9 rs.length (cellsOf rs)) (by simp)
          have hr8 := HR08.out
          obtain ⟨g2, c2, cur2, rfl, -, hk1, hk2, -, -, hat⟩ := row_at hrow hr8.1
          have HAT := Lib.hid hat
          have HPK := Lib.hid (fun wy => pick_any z rs.length (by unfold I64; omega) (by omega) (by omega) wy)
          have hpb := pickI_bd z rs.length (by omega)
          obtain ⟨pz, hpz⟩ := Int.eq_ofNat_of_zero_le hpb.1
          rw [hpz] at HPK hpb
          have hpl : pz < rs.length := by omega
          have hpl' : (pz : Int) < (rs.length : Int) := by omega
          obtain ⟨r, hr⟩ : ∃ r, rs[pz]? = some r := ⟨_, List.getElem?_eq_getElem hpl⟩
          have HRr := Lib.hid hr
          have c0 := hat _ _ (cells_at rs pz r hr).1
          have c1 := hat _ _ (cells_at rs pz r hr).2
          obtain ⟨rb, rb', rv1, rv2, s⟩ := r
          dsimp only at c0 c1
          have hg2l : g2 < wr.heap.size := World.block_lt_of_cell? _ _ c0
          clear e0 e1 e2 e3 e4 fold hig k1 k2 k3 k4 k0 hz hrow hat hpz hr q2
          unfold maxLen at hk2
          go_wp2_with fail
          refine (HPK.out _).mono ?_
          rintro e w6 ⟨rfl, rfl⟩
          go_upto_if 80 with (fail)
          obtain ⟨wy, hwy⟩ : ∃ wy, wy = (wr.alloc (.cells #[.int .i64 y, .int .u64 n, .int .i64 K, .slice oq Bq.length cq, .string Sq] 50 (0, 0))).alloc (.cells #[.pointer (some ⟨rb, 0, none⟩), .pointer (some ⟨rb', 0, none⟩)] 61 (0, 0)) := ⟨_, rfl⟩
          obtain ⟨Y, hY⟩ : ∃ Y, Y = wr.heap.size := ⟨_, rfl⟩
          have hcy : Chg (fun _ => False) wr wy := by rw [hwy]; exact ((Chg.refl _ _).alloc _).alloc _
          have HYb := Lib.hid (show blk wy Y = some (.cells #[.int .i64 y, .int .u64 n, .int .i64 K, .slice oq Bq.length cq, .string Sq] 50 (0, 0)) by rw [hwy, hY, blk_alloc_past _ _ _ (by simp)]; exact blk_alloc_at _ _ _ rfl)
          have HZb := Lib.hid (show blk wy (Y + 1) = some (.cells #[.pointer (some ⟨rb, 0, none⟩), .pointer (some ⟨rb', 0, none⟩)] 61 (0, 0)) by rw [hwy, hY]; exact blk_alloc_at _ _ _ (by simp))
          have HCY := Lib.hid (HCH.out.trans hcy fun _ _ h => h.elim)
          have HBKy := Lib.hid (HBKr.out.still hcy)
          rw [← hwy, ← hY]
          clear hwy hY hcy c0 c1 hg2l hk1 hk2 d0 d1 d2 d3 d4
          go_cut [9, 14] from 54 to 124 (fun s9 s14 wq => s14 = .bool true ∧ ∃ (rs' : List Rdr) (bs' : BS), 0 < rs'.length ∧ rs'.length ≤ 8 ∧ (∀ r ∈ rs', r.2.2.2.2.xs.length ≤ 20000) ∧ bs'.few (2 * i + 2) ∧ BookAt w.heap.size wq (A + 1) bs' (rowT w.heap.size 61 2 s9 rs'.length (cellsOf rs') :: thingsOf w.heap.size rs') ∧ Chg (fun i => w.heap.size ≤ i) w wq)
          case first =>
            by_cases hy8 : y = 8
            · have hyt : (y == 8) = true := by simp [hy8]
              have hst := things_out (base := w.heap.size) HRr.out (rowT w.heap.size 61 2 (.slice (some ⟨g2, 0, none⟩) rs.length c2) rs.length (cellsOf rs)) (rb, rb', rv1, rv2, s.partS) rfl rfl
              have HST := Lib.hid hst
              have HBO := Lib.hid (HBKy.out.perm hst.1)
              have hrdl := ((HBKy.out.mem (t := rdT w.heap.size rb rv1 s) (List.mem_cons_of_mem _ (things_mem (List.mem_of_getElem? HRr.out)).1) : RdIs wy w.heap.size rb rv1 s).foot (i := rb) (.inl rfl)).2
              have hzr : Y + 1 ≠ rb := fun e => by
                have h := (HBKy.out.mem (t := rdT w.heap.size rb rv1 s) (List.mem_cons_of_mem _ (things_mem (List.mem_of_getElem? HRr.out)).1) : RdIs wy w.heap.size rb rv1 s).st
                rw [← e, HZb.out] at h
                simp only [Option.some.injEq, Obj.cells.injEq] at h
                exact absurd h.2.1 (by decide)
              have HZR := Lib.hid hzr
              have hzr2 : Y + 1 ≠ rb' := fun e => by
                have h := (HBKy.out.mem (t := vdT w.heap.size rb' rv2 s) (List.mem_cons_of_mem _ (things_mem (List.mem_of_getElem? HRr.out)).2) : VdIs wy w.heap.size rb' rv2 s).st
                rw [← e, HZb.out] at h
                simp only [Option.some.injEq, Obj.cells.injEq] at h
                exact absurd h.2.1 (by decide)
              have HZR2 := Lib.hid hzr2
              have KS := Lib.hid (fun (wq : World) (h : blk wq (Y + 1) = some (.cells #[.pointer (some ⟨rb, 0, none⟩), .pointer (some ⟨rb', 0, none⟩)] 61 (0, 0))) => (show wq.cell? ⟨Y + 1, 0, none⟩ = some (.pointer (some ⟨rb, 0, none⟩)) ∧ wq.cell? ⟨Y + 1, 1, none⟩ = some (.pointer (some ⟨rb', 0, none⟩)) from ⟨cell_of_blk h 0, cell_of_blk h 1⟩))
              have y0 := cell_of_blk HYb.out 0
              have zl := blk_lt HZb.out
              clear hst hrdl hzr hzr2 hy8
              go_upto_region 18 with (fail)
              rw [hyt]
              clear hyt
              go_cut [15] from 81 to 87 (fun s15 wq => ∃ (P b1 b2 : Nat) (v1 v2 : Value), s15 = .pointer (some ⟨P, 0, none⟩) ∧ BookAt w.heap.size wq (A + 1) bs (blkT P (.cells #[.pointer (some ⟨b1, 0, none⟩), .pointer (some ⟨b2, 0, none⟩)] 61 (0, 0)) :: rdT w.heap.size rb rv1 s.partS :: vdT w.heap.size rb' rv2 s.partS :: rdT w.heap.size b1 v1 s.partR :: vdT w.heap.size b2 v2 s.partR :: rowT w.heap.size 61 2 (.slice (some ⟨g2, 0, none⟩) rs.length c2) rs.length (cellsOf rs) :: (thingsOf w.heap.size (rs.take pz) ++ thingsOf w.heap.size (rs.drop (pz + 1)))) ∧ Chg (fun i => w.heap.size ≤ i) w wq)
              case first =>
                refine wp_region_noPanic ?_
                refine wp_region_held_drew (S := fun w' => w'.cell? ⟨Y + 1, 0, none⟩ = some (.pointer (some ⟨rb, 0, none⟩)) ∧ w'.cell? ⟨Y + 1, 1, none⟩ = some (.pointer (some ⟨rb', 0, none⟩))) (by kernel_rfl) (KS.out _ (Chg.blk' (Chg.refl (fun _ => False) wy).drew HZb.out id)) (fun hHeld => ?_)
                refine wpAnyH_take (i := 0) (v := ?v1) rfl (by kernel_rfl) (by kernel_rfl) (by kernel_rfl) (fun _ _ _ h => h) (Or.inl ⟨by kernel_rfl, ?hy1⟩) hHeld ?rest1
                case hy1 =>
                  intro w hSw
                  try dsimp only at hSw
                  obtain ⟨hS1, hS2⟩ := hSw
                  go_simp
                  try with_reducible rfl
                simp only [List.getElem_toArray, List.getElem_cons_succ, List.getElem_cons_zero, Act.put, List.setIfInBounds_toArray, List.set_cons_zero, List.set_cons_succ]
                refine wpAnyH_take (i := 1) (v := ?v2) rfl (by kernel_rfl) (by kernel_rfl) (by kernel_rfl) (fun _ _ _ h => h) (Or.inl ⟨by kernel_rfl, ?hy2⟩) hHeld ?rest2
                case hy2 =>
                  intro w hSw
                  try dsimp only at hSw
                  obtain ⟨hS1, hS2⟩ := hSw
                  go_simp
                  try with_reducible rfl
                simp only [List.getElem_toArray, List.getElem_cons_succ, List.getElem_cons_zero, Act.put, List.setIfInBounds_toArray, List.set_cons_zero, List.set_cons_succ]
                refine wpAnyH_take (i := 3) (v := ?v3) rfl (by kernel_rfl) (by kernel_rfl) (by kernel_rfl) (fun _ _ _ h => h) (Or.inl ⟨by kernel_rfl, ?hy3⟩) hHeld ?rest3
                case hy3 =>
                  intro w hSw
                  try dsimp only at hSw
                  obtain ⟨hS1, hS2⟩ := hSw
                  go_simp
                  try with_reducible rfl
                simp only [List.getElem_toArray, List.getElem_cons_succ, List.getElem_cons_zero, Act.put, List.setIfInBounds_toArray, List.set_cons_zero, List.set_cons_succ]
                refine wpAnyH_take (i := 4) (v := ?v4) rfl (by kernel_rfl) (by kernel_rfl) (by kernel_rfl) (fun _ _ _ h => h) (Or.inl ⟨by kernel_rfl, ?hy4⟩) hHeld ?rest4
                case hy4 =>
                  intro w hSw
                  try dsimp only at hSw
                  obtain ⟨hS1, hS2⟩ := hSw
                  go_simp
                  try with_reducible rfl
                simp only [List.getElem_toArray, List.getElem_cons_succ, List.getElem_cons_zero, Act.put, List.setIfInBounds_toArray, List.set_cons_zero, List.set_cons_succ]
                refine wpAnyH_ready (rs := [2, 7]) (by kernel_rfl) (by simp) ?_
                refine AllReadyH.cons rfl (fun K hK => ?_) (AllReadyH.cons rfl (fun K hK => ?_) (AllReadyH.nil))
                · have K0 := Lib.hid (HBO.out.still (Chg.refl _ wy).drew)
                  have HB0 := Lib.hid (show w.heap.size ≤ wy.drew.heap.size from HCY.out.size)
                  have HZ0 := Lib.hid (Chg.blk' (Chg.refl (fun _ => False) wy).drew HZb.out id)
                  have HCA := Lib.hid (Chg.trans HCY.out (Chg.refl (fun _ => False) wy).drew fun _ _ h => h.elim)
                  go_simp
                  go_at_call 25
                  refine (rpart_ok (K0.out.mem (t := rdT w.heap.size rb rv1 s) (by simp) : RdIs _ w.heap.size rb rv1 s) HB0.out).mono ?_
                  rintro e w8 ⟨b1, v1, rfl, hr1, hg1⟩
                  have HR1 := Lib.hid hr1
                  have HG1 := Lib.hid hg1
                  have HZ8 := Lib.hid (hg1.2.blk' HZ0.out HZR.out)
                  have HB8 := Lib.hid (Nat.le_trans HB0.out hg1.2.size)
                  have KR := Lib.hid (K0.out.rdAdd (u := rdT w.heap.size b1 v1 s.partR) HB0.out hg1 (hr1.lower HB0.out) fun i hi => (hr1.foot hi).1)
                  clear hr1 hg1
                  refine hK.out _ _ (KS.out _ HZ8.out) (fun hHeld => ?_)
                  clear hK K
                  try simp only [List.getElem_toArray, List.getElem_cons_succ, List.getElem_cons_zero, Act.put, List.setIfInBounds_toArray, List.set_cons_zero, List.set_cons_succ]
                  refine wpAnyH_ready (rs := [5, 7]) (by kernel_rfl) (by simp) ?_
                  refine AllReadyH.cons rfl (fun K hK => ?_) (AllReadyH.cons rfl (fun K hK => ?_) (AllReadyH.nil))
                  · have HV8 := Lib.hid (KR.out.1.mem (t := vdT w.heap.size rb' rv2 s) (by simp) : VdIs w8 w.heap.size rb' rv2 s)
                    go_simp
                    go_at_call 26
                    refine (vpart_ok HV8.out HB8.out).mono ?_
                    rintro e w9 ⟨b2, v2, rfl, hr2, hg2⟩
                    have HZ9 := Lib.hid (hg2.2.blk' HZ8.out HZR2.out)
                    have K9 := BookAt.part2 hg2 hr2 K0.out HB0.out HG1.out HR1.out (Chg.refl _ _)
                    have HK8 := Lib.hid K9.1
                    have HC8 := Lib.hid (HCA.out.trans K9.2 fun _ _ h => h)
                    have HZ8b := Lib.hid HZ9.out
                    clear hr2 hg2 K9
                    refine hK.out _ _ (KS.out _ HZ9.out) (fun hHeld => ?_)
                    clear hK K
                    try simp only [List.getElem_toArray, List.getElem_cons_succ, List.getElem_cons_zero, Act.put, List.setIfInBounds_toArray, List.set_cons_zero, List.set_cons_succ]
                    refine wpAnyH_take (i := 6) (v := ?v7) rfl (by kernel_rfl) (by kernel_rfl) (by kernel_rfl) (fun _ _ _ h => h) (Or.inl ⟨by kernel_rfl, ?hy7⟩) hHeld ?rest7
                    case hy7 =>
                      intro w hSw
                      try dsimp only at hSw
                      obtain ⟨hS1, hS2⟩ := hSw
                      go_simp
                      try with_reducible rfl
                    simp only [List.getElem_toArray, List.getElem_cons_succ, List.getElem_cons_zero, Act.put, List.setIfInBounds_toArray, List.set_cons_zero, List.set_cons_succ]
                    refine wpAnyH_ready (rs := [7]) (by kernel_rfl) (by simp) ?_
                    refine AllReadyH.cons rfl (fun K hK => ?_) (AllReadyH.nil)
                    have HKF := Lib.hid (HK8.out.addBlk HC8.out.size #[.pointer (some ⟨b1, 0, none⟩), .pointer (some ⟨b2, 0, none⟩)] 61)
                    have HCF := Lib.hid (HC8.out.trans ((Chg.refl (fun _ => False) w9).alloc (.cells #[.pointer (some ⟨b1, 0, none⟩), .pointer (some ⟨b2, 0, none⟩)] 61 (0, 0))) fun _ _ h => h.elim)
                    have HZF := Lib.hid (Chg.blk' ((Chg.refl (fun _ => False) w9).alloc (.cells #[.pointer (some ⟨b1, 0, none⟩), .pointer (some ⟨b2, 0, none⟩)] 61 (0, 0))) HZ8b.out id)
                    have HZN := Lib.hid (Chg.blk' ((Chg.refl (fun _ => False) w9).alloc (.cells #[.pointer none, .pointer none] 61 (0, 0))) HZ8b.out id)
                    go_simp
                    refine hK.out _ _ (KS.out _ HZN.out) (fun hHeld => ?_)
                    clear hK K
                    try simp only [List.getElem_toArray, List.getElem_cons_succ, List.getElem_cons_zero, Act.put, List.setIfInBounds_toArray, List.set_cons_zero, List.set_cons_succ]
                    refine wpAnyH_ready (rs := [8]) (by kernel_rfl) (by simp) ?_
                    refine AllReadyH.cons rfl (fun K hK => ?_) (AllReadyH.nil)
                    go_simp
                    refine hK.out _ _ (KS.out _ HZF.out) (fun hHeld => ?_)
                    clear hK K
                    try simp only [List.getElem_toArray, List.getElem_cons_succ, List.getElem_cons_zero, Act.put, List.setIfInBounds_toArray, List.set_cons_zero, List.set_cons_succ]
                    refine wpAnyH_done (by kernel_rfl) ?_ _
                    refine NoPanic.normal ?_
                    go_wp2
                    go_meet
                    case rel => exact ⟨_, b1, b2, v1, v2, rfl, HKF.out, HCF.out⟩
                  · have KA := Lib.hid ((KR.out.1.addBlk HB8.out #[.pointer none, .pointer none] 61).perm (List.perm_middle (l₁ := [_, _, _])))
                    have HZA := Lib.hid (Chg.blk' ((Chg.refl (fun _ => False) w8).alloc (.cells #[.pointer none, .pointer none] 61 (0, 0))) HZ8.out id)
                    have HPB := Lib.hid HB8.out
                    have HPY := Lib.hid (show ¬ (Y + 1 = w8.heap.size) from by have := blk_lt HZ8.out; omega)
                    go_simp
                    refine hK.out _ _ (KS.out _ HZA.out) (fun hHeld => ?_)
                    clear hK K
                    try simp only [List.getElem_toArray, List.getElem_cons_succ, List.getElem_cons_zero, Act.put, List.setIfInBounds_toArray, List.set_cons_zero, List.set_cons_succ]
                    refine wpAnyH_ready (rs := [5]) (by kernel_rfl) (by simp) ?_
                    refine AllReadyH.cons rfl (fun K hK => ?_) (AllReadyH.nil)
                    go_simp
                    go_at_call 26
                    refine (vpart_ok (KA.out.mem (t := vdT w.heap.size rb' rv2 s) (by simp) : VdIs _ w.heap.size rb' rv2 s) (Nat.le_trans HB8.out (by simp))).mono ?_
                    rintro e w9 ⟨b2, v2, rfl, hr2, hg2⟩
                    have HZ9 := Lib.hid (hg2.2.blk' HZA.out HZR2.out)
                    have K9 := KA.out.vdAdd (u := vdT w.heap.size b2 v2 s.partR) (Nat.le_trans HB8.out (by simp)) hg2 (hr2.lower (Nat.le_trans HB8.out (by simp))) fun i hi => (hr2.foot hi).1
                    have HK9 := Lib.hid (K9.1.perm ((List.perm_middle (l₁ := [_, _])).trans (.cons _ ((List.perm_middle (l₁ := [_, _, _]) (a := rdT w.heap.size rb rv1 s.partS)).trans (.cons _ (List.perm_middle (l₁ := [_, _]) (a := vdT w.heap.size b2 v2 s.partR)).symm)))))
                    have HC9 := Lib.hid (((HCA.out.trans KR.out.2 fun _ _ h => h).trans ((Chg.refl (fun _ => False) w8).alloc _) fun _ _ h => h.elim).trans K9.2 fun _ _ h => h)
                    have HS9 := Lib.hid HC9.out.size
                    have HP9 := Lib.hid (show blk w9 w8.heap.size = _ from K9.1.mem (t := blkT w8.heap.size (.cells #[.pointer none, .pointer none] 61 (0, 0))) (by simp))
                    clear hr2 hg2 K9
                    have p0 := cell_of_blk HP9.out 0
                    have p1 := cell_of_blk HP9.out 1
                    have q0 := frozen_of_blk HP9.out 0
                    have q1 := frozen_of_blk HP9.out 1
                    refine hK.out _ _ (KS.out _ HZ9.out) (fun hHeld => ?_)
                    clear hK K
                    try simp only [List.getElem_toArray, List.getElem_cons_succ, List.getElem_cons_zero, Act.put, List.setIfInBounds_toArray, List.set_cons_zero, List.set_cons_succ]
                    refine wpAnyH_take (i := 6) (v := ?v6) rfl (by kernel_rfl) (by kernel_rfl) (by kernel_rfl) (fun _ _ _ h => h) (Or.inl ⟨by kernel_rfl, ?hy6⟩) hHeld ?rest6
                    case hy6 =>
                      intro w hSw
                      try dsimp only at hSw
                      obtain ⟨hS1, hS2⟩ := hSw
                      go_simp
                      try with_reducible rfl
                    simp only [List.getElem_toArray, List.getElem_cons_succ, List.getElem_cons_zero, Act.put, List.setIfInBounds_toArray, List.set_cons_zero, List.set_cons_succ]
                    refine wpAnyH_ready (rs := [8]) (by kernel_rfl) (by simp) ?_
                    refine AllReadyH.cons rfl (fun K hK => ?_) (AllReadyH.nil)
                    go_simp
                    refine hK.out _ _ (KS.out _ (Chg.blk' (show Chg (fun i => i = w8.heap.size) w9 _ from ((Chg.refl (fun i => i = w8.heap.size) w9).setCell (p := ⟨w8.heap.size, 0, none⟩) (fun _ => rfl) (.pointer (some ⟨b1, 0, none⟩))).setCell (p := ⟨w8.heap.size, 1, none⟩) (fun _ => rfl) (.pointer (some ⟨b2, 0, none⟩))) HZ9.out HPY.out)) (fun hHeld => ?_)
                    clear hK K
                    try simp only [List.getElem_toArray, List.getElem_cons_succ, List.getElem_cons_zero, Act.put, List.setIfInBounds_toArray, List.set_cons_zero, List.set_cons_succ]
                    refine wpAnyH_done (by kernel_rfl) ?_ _
                    refine NoPanic.normal ?_
                    go_wp2
                    go_meet
                    case rel => exact ⟨_, b1, b2, v1, v2, rfl, (HK9.out.blkCell (i := 0) (x := .pointer (some ⟨b1, 0, none⟩)) HS9.out (cs' := #[.pointer (some ⟨b1, 0, none⟩), .pointer none]) (by simp [objSet])).blkCell (i := 1) (x := .pointer (some ⟨b2, 0, none⟩)) (by simpa using HS9.out) (by simp [objSet]), (HC9.out.setCell (p := ⟨w8.heap.size, 0, none⟩) (fun _ => HPB.out) _).setCell (p := ⟨w8.heap.size, 1, none⟩) (fun _ => HPB.out) _⟩
                · have K0 := Lib.hid (((HBO.out.still (Chg.refl _ wy).drew).addBlk (Nat.le_trans HCY.out.size (by simp)) #[.pointer none, .pointer none] 61).perm (List.perm_middle (l₁ := [_, _])).symm)
                  have HB0 := Lib.hid (show w.heap.size ≤ (wy.drew.alloc (.cells #[.pointer none, .pointer none] 61 (0, 0))).heap.size from Nat.le_trans HCY.out.size (by simp))
                  have HZ0 := Lib.hid (Chg.blk' ((Chg.refl (fun _ => False) wy).drew.alloc (.cells #[.pointer none, .pointer none] 61 (0, 0))) HZb.out id)
                  have HCA := Lib.hid (Chg.trans HCY.out ((Chg.refl (fun _ => False) wy).drew.alloc (.cells #[.pointer none, .pointer none] 61 (0, 0))) fun _ _ h => h.elim)
                  have HPY := Lib.hid (show ¬ (Y + 1 = wy.heap.size) from by omega)
                  have HPB := Lib.hid HCY.out.size
                  go_simp
                  refine hK.out _ _ (KS.out _ HZ0.out) (fun hHeld => ?_)
                  clear hK K
                  try simp only [List.getElem_toArray, List.getElem_cons_succ, List.getElem_cons_zero, Act.put, List.setIfInBounds_toArray, List.set_cons_zero, List.set_cons_succ]
                  refine wpAnyH_ready (rs := [2]) (by kernel_rfl) (by simp) ?_
                  refine AllReadyH.cons rfl (fun K hK => ?_) (AllReadyH.nil)
                  go_simp
                  go_at_call 25
                  refine (rpart_ok (K0.out.mem (t := rdT w.heap.size rb rv1 s) (by simp) : RdIs _ w.heap.size rb rv1 s) HB0.out).mono ?_
                  rintro e w8 ⟨b1, v1, rfl, hr1, hg1⟩
                  have HR1 := Lib.hid hr1
                  have HG1 := Lib.hid hg1
                  have HZ8 := Lib.hid (hg1.2.blk' HZ0.out HZR.out)
                  have HB8 := Lib.hid (Nat.le_trans HB0.out hg1.2.size)
                  have HV8 := Lib.hid ((K0.out.rd HB0.out hg1).1.mem (t := vdT w.heap.size rb' rv2 s) (by simp) : VdIs w8 w.heap.size rb' rv2 s)
                  clear hr1 hg1
                  refine hK.out _ _ (KS.out _ HZ8.out) (fun hHeld => ?_)
                  clear hK K
                  try simp only [List.getElem_toArray, List.getElem_cons_succ, List.getElem_cons_zero, Act.put, List.setIfInBounds_toArray, List.set_cons_zero, List.set_cons_succ]
                  refine wpAnyH_ready (rs := [5]) (by kernel_rfl) (by simp) ?_
                  refine AllReadyH.cons rfl (fun K hK => ?_) (AllReadyH.nil)
                  go_simp
                  go_at_call 26
                  refine (vpart_ok HV8.out HB8.out).mono ?_
                  rintro e w9 ⟨b2, v2, rfl, hr2, hg2⟩
                  have HZ9 := Lib.hid (hg2.2.blk' HZ8.out HZR2.out)
                  have K9 := BookAt.part2 hg2 hr2 K0.out HB0.out HG1.out HR1.out (Chg.refl _ _)
                  have HK9 := Lib.hid (K9.1.perm (List.perm_middle (l₁ := [_, _, _, _])))
                  have HC9 := Lib.hid (HCA.out.trans K9.2 fun _ _ h => h)
                  have HS9 := Lib.hid HC9.out.size
                  have HP9 := Lib.hid (show blk w9 wy.heap.size = _ from K9.1.mem (t := blkT wy.drew.heap.size (.cells #[.pointer none, .pointer none] 61 (0, 0))) (by simp))
                  clear hr2 hg2 K9
                  have p0 := cell_of_blk HP9.out 0
                  have p1 := cell_of_blk HP9.out 1
                  have q0 := frozen_of_blk HP9.out 0
                  have q1 := frozen_of_blk HP9.out 1
                  refine hK.out _ _ (KS.out _ HZ9.out) (fun hHeld => ?_)
                  clear hK K
                  try simp only [List.getElem_toArray, List.getElem_cons_succ, List.getElem_cons_zero, Act.put, List.setIfInBounds_toArray, List.set_cons_zero, List.set_cons_succ]
                  refine wpAnyH_take (i := 6) (v := ?v5) rfl (by kernel_rfl) (by kernel_rfl) (by kernel_rfl) (fun _ _ _ h => h) (Or.inl ⟨by kernel_rfl, ?hy5⟩) hHeld ?rest5
                  case hy5 =>
                    intro w hSw
                    try dsimp only at hSw
                    obtain ⟨hS1, hS2⟩ := hSw
                    go_simp
                    try with_reducible rfl
                  simp only [List.getElem_toArray, List.getElem_cons_succ, List.getElem_cons_zero, Act.put, List.setIfInBounds_toArray, List.set_cons_zero, List.set_cons_succ]
                  refine wpAnyH_ready (rs := [8]) (by kernel_rfl) (by simp) ?_
                  refine AllReadyH.cons rfl (fun K hK => ?_) (AllReadyH.nil)
                  go_simp
                  refine hK.out _ _ (KS.out _ (Chg.blk' (show Chg (fun i => i = wy.heap.size) w9 _ from ((Chg.refl (fun i => i = wy.heap.size) w9).setCell (p := ⟨wy.heap.size, 0, none⟩) (fun _ => rfl) (.pointer (some ⟨b1, 0, none⟩))).setCell (p := ⟨wy.heap.size, 1, none⟩) (fun _ => rfl) (.pointer (some ⟨b2, 0, none⟩))) HZ9.out HPY.out)) (fun hHeld => ?_)
                  clear hK K
                  try simp only [List.getElem_toArray, List.getElem_cons_succ, List.getElem_cons_zero, Act.put, List.setIfInBounds_toArray, List.set_cons_zero, List.set_cons_succ]
                  refine wpAnyH_done (by kernel_rfl) ?_ _
                  refine NoPanic.normal ?_
                  go_wp2
                  go_meet
                  case rel => exact ⟨_, b1, b2, v1, v2, rfl, (HK9.out.blkCell (i := 0) (x := .pointer (some ⟨b1, 0, none⟩)) HS9.out (cs' := #[.pointer (some ⟨b1, 0, none⟩), .pointer none]) (by simp [objSet])).blkCell (i := 1) (x := .pointer (some ⟨b2, 0, none⟩)) (by simpa using HS9.out) (by simp [objSet]), (HC9.out.setCell (p := ⟨wy.heap.size, 0, none⟩) (fun _ => HPB.out) _).setCell (p := ⟨wy.heap.size, 1, none⟩) (fun _ => HPB.out) _⟩
              case rest =>
                obtain ⟨P, b1, b2, v1, v2, rfl, hbq, hcq⟩ := hcut
                have HBQ := Lib.hid hbq
                have HCQ := Lib.hid hcq
                have hP : blk wc P = some (.cells #[.pointer (some ⟨b1, 0, none⟩), .pointer (some ⟨b2, 0, none⟩)] 61 (0, 0)) := hbq.mem (t := blkT P (.cells #[.pointer (some ⟨b1, 0, none⟩), .pointer (some ⟨b2, 0, none⟩)] 61 (0, 0))) (by simp)
                have HP5 := Lib.hid hP
                have p0 := cell_of_blk hP 0
                have p1 := cell_of_blk hP 1
                have HAL := Lib.hid (alike_ok (hbq.mem (t := rdT w.heap.size b1 v1 s.partR) (by simp) : RdIs wc w.heap.size b1 v1 s.partR) (hbq.mem (t := vdT w.heap.size b2 v2 s.partR) (by simp) : VdIs wc w.heap.size b2 v2 s.partR))
                have HRXs := Lib.hid (show s.xs.length ≤ 20000 from HRX.out _ (List.mem_of_getElem? HRr.out))
                clear hbq hcq hP
                go_wp2_with fail
                refine HAL.out.mono ?_
                rintro e w10 ⟨rfl, hc10⟩
                have HP10 := Lib.hid (hc10.blk' HP5.out id)
                have HB10 := Lib.hid (HBQ.out.still hc10)
                have HC10 := Lib.hid (HCQ.out.trans hc10 fun _ _ h => h.elim)
                have p0' := cell_of_blk HP10.out 0
                have p1' := cell_of_blk HP10.out 1
                clear hc10 HAL p0 p1
                by_cases h8 : rs.length < 8
                · have h8' : (rs.length : Int) < 8 := by omega
                  obtain ⟨i0, hi, hz0, hz1, hz2⟩ := infopz
                  have HROW := Lib.hid (show w10.ownsRow w.heap.size 61 2 (.slice (some ⟨g2, 0, none⟩) rs.length c2) rs.length (cellsOf rs) from HB10.out.mem (t := rowT w.heap.size 61 2 (.slice (some ⟨g2, 0, none⟩) rs.length c2) rs.length (cellsOf rs)) (by simp))
                  have H8 := Lib.hid h8
                  clear h8
                  go_wp2_with (at_builtin; go_loud (refine wpList_app rfl _ _ 62 rfl w.heap.size 61 i0 (.agg #[.pointer none, .pointer none]) 2 16 Tryd.underlying62 hi hz0 hz1 hz2 rfl (by decide) (.slice (some ⟨g2, 0, none⟩) rs.length c2) rs.length (cellsOf rs) (by rfl) (row_frame HROW.out ((Chg.refl (fun _ => False) w10).alloc _) fun _ _ => id) _ 1 1 [.pointer (some ⟨b1, 0, none⟩), .pointer (some ⟨b2, 0, none⟩)] (by rfl) (SrcIs.some (by rfl) (by simp [Value.oneCell']) (World.news_of_block (heap_alloc_new _ _))) (fun h => by cases h) (by have := H8.out; unfold maxLen; omega) (by have := H8.out; omega) (by have := HC10.out.size; simp; omega) ?_); intro v3 w3 hown hgrow hlie; have K3 := BookAt.app [_, _, _, _, _] (HB10.out.still ((Chg.refl (fun _ => False) w10).alloc _)) (by have := HC10.out.size; simp; omega) hown hgrow hlie; have HK3 := Lib.hid K3.1; have HC3' := Lib.hid (HC10.out.trans (((Chg.refl (fun i => w.heap.size ≤ i) w10).alloc _).trans K3.2 fun _ _ h => h) fun _ _ h => h); obtain ⟨o3, c3, rfl, -⟩ := row_form hown; clear hown hgrow hlie K3)
                  go_wp2
                  go_meet
                  case rel =>
                    refine ⟨rfl, rs.set pz (rb, rb', rv1, rv2, s.partS) ++ [(b1, b2, v1, v2, s.partR)], bs, by simp, by have := H8.out; simp; omega, fun q hq => ?_, HFEW.out.more (by omega), ?_, HC3'.out⟩
                    · rcases List.mem_append.1 hq with hq | hq
                      · rcases List.mem_or_eq_of_mem_set hq with hq | rfl
                        · exact HRX.out q hq
                        · show s.partS.xs.length ≤ 20000
                          rw [partS_xs]
                          exact HRXs.out
                      · simp only [List.mem_cons, List.not_mem_nil, or_false] at hq
                        subst hq
                        exact Nat.le_trans (partR_few s) HRXs.out
                    · have hpp := things_out (base := w.heap.size) HRr.out (rowT w.heap.size 61 2 (.slice o3 (rs.length + 1) c3) (rs.length + 1) (cellsOf rs ++ [.pointer (some ⟨b1, 0, none⟩), .pointer (some ⟨b2, 0, none⟩)])) (rb, rb', rv1, rv2, s.partS) rfl rfl
                      have e1 : (rs.set pz (rb, rb', rv1, rv2, s.partS) ++ [(b1, b2, v1, v2, s.partR)]).length = rs.length + 1 := by simp
                      have e2 : cellsOf (rs.set pz (rb, rb', rv1, rv2, s.partS) ++ [(b1, b2, v1, v2, s.partR)]) = cellsOf rs ++ [.pointer (some ⟨b1, 0, none⟩), .pointer (some ⟨b2, 0, none⟩)] := by
                        have h : ∀ l : List Rdr, cellsOf (l ++ [(b1, b2, v1, v2, s.partR)]) = cellsOf l ++ [.pointer (some ⟨b1, 0, none⟩), .pointer (some ⟨b2, 0, none⟩)] := fun l => by simp [cellsOf]
                        rw [h, hpp.2.2]
                      have e3 : thingsOf w.heap.size (rs.set pz (rb, rb', rv1, rv2, s.partS) ++ [(b1, b2, v1, v2, s.partR)]) = thingsOf w.heap.size (rs.set pz (rb, rb', rv1, rv2, s.partS)) ++ [rdT w.heap.size b1 v1 s.partR, vdT w.heap.size b2 v2 s.partR] := by simp [thingsOf]
                      rw [e1, e2, e3]
                      exact (HK3.out.sub (List.sublist_cons_self _ _)).perm (pair_in hpp.2.1)
                · have h8' : ¬ ((rs.length : Int) < 8) := by omega
                  clear h8
                  go_wp2
                  go_meet
                  case rel =>
                    refine ⟨rfl, rs.set pz (rb, rb', rv1, rv2, s.partS), bs, by rw [List.length_set]; exact HR08.out.1, by rw [List.length_set]; exact HR08.out.2, fun q hq => ?_, HFEW.out.more (by omega), ?_, HC10.out⟩
                    · rcases List.mem_or_eq_of_mem_set hq with hq | rfl
                      · exact HRX.out q hq
                      · show s.partS.xs.length ≤ 20000
                        rw [partS_xs]
                        exact HRXs.out
                    · rw [List.length_set, HST.out.2.2]
                      refine (HB10.out.sub ?_).perm HST.out.2.1
                      exact (((List.sublist_cons_self _ _).trans (List.sublist_cons_self _ _)).cons_cons _ |>.cons_cons _).trans (List.sublist_cons_self _ _)
            · have hyt : (y == 8) = false := beq_eq_false_iff_ne.2 hy8
              have hst := things_out (base := w.heap.size) HRr.out (rowT w.heap.size 61 2 (.slice (some ⟨g2, 0, none⟩) rs.length c2) rs.length (cellsOf rs)) (rb, rb', rv1, rv2, s.stepped y K) rfl rfl
              have HST := Lib.hid hst
              have hrx : s.xs.length ≤ 20000 := HRX.out _ (List.mem_of_getElem? HRr.out)
              have hmu := HFEW.out.1
              have HRA := Lib.hid (reads_any (HBKy.out.perm hst.1) HCY.out.size (by omega) (Nat.le_trans hrx (by omega)) y n K HK.out.2 (.slice oq Bq.length cq) Sq)
              have z0 := cell_of_blk HZb.out 0
              have z1 := cell_of_blk HZb.out 1
              have y0 := cell_of_blk HYb.out 0
              have y1 := cell_of_blk HYb.out 1
              have y2 := cell_of_blk HYb.out 2
              have y3 := cell_of_blk HYb.out 3
              have y4 := cell_of_blk HYb.out 4
              have HRXs := Lib.hid hrx
              clear hy8 hst hrx hmu
              go_wp2_with fail
              refine HRA.out.mono ?_
              rintro e w8 ⟨rfl, ⟨bs', hb8, hbs⟩, hc8⟩
              have HB8 := Lib.hid hb8
              have HBS8 := Lib.hid hbs
              have HC8 := Lib.hid (HCY.out.trans hc8 fun _ _ h => h)
              clear hb8 hbs hc8 HRA z0 z1 y0 y1 y2 y3 y4
              go_wp2
              go_meet
              case rel =>
                refine ⟨rfl, rs.set pz (rb, rb', rv1, rv2, s.stepped y K), bs', by rw [List.length_set]; exact HR08.out.1, by rw [List.length_set]; exact HR08.out.2, fun q hq => ?_, ?_, ?_, HC8.out⟩
                · rcases List.mem_or_eq_of_mem_set hq with hq | rfl
                  · exact HRX.out q hq
                  · show (s.stepped y K).xs.length ≤ 20000
                    rw [stepped_xs]
                    exact HRXs.out
                · have hR : RdIs wy w.heap.size rb rv1 s := HBKy.out.mem (t := rdT w.heap.size rb rv1 s) (List.mem_cons_of_mem _ (things_mem (List.mem_of_getElem? HRr.out)).1)
                  rcases HBS8.out with rfl | ⟨v9, c9, rfl⟩
                  · exact HFEW.out.more (by omega)
                  · exact HFEW.out.own (Nat.le_trans (rawV_few _ _) (by have := HRXs.out; omega)) (rawV_byte hR.byte K)
                · rw [List.length_set, HST.out.2.2]
                  exact HB8.out.perm HST.out.2.1
          case rest =>
            obtain ⟨rfl, rs', bs', hr0', hr8', hrx', hfew', hbk', hch'⟩ := hcut
            have HLK2 := Lib.hid (looks_few hbk' hch'.size hfew' (by omega))
            have HRX' := Lib.hid hrx'
            have HR' := Lib.hid (And.intro hr0' hr8')
            have HCH' := Lib.hid hch'
            clear hrx' hfew' hbk' hch' hr0' hr8'
            go_wp2_with fail
            refine HLK2.out.mono ?_
            rintro e w9 ⟨rfl, ⟨bs9, hf9, hb9⟩, hc9⟩
            have HF9 := Lib.hid hf9
            have HB9 := Lib.hid hb9
            have HC9 := Lib.hid (HCH'.out.trans hc9 fun _ _ h => h)
            have hrow9 : w9.ownsRow w.heap.size 61 2 u9 rs'.length (cellsOf rs') := hb9.mem (t := rowT w.heap.size 61 2 u9 rs'.length (cellsOf rs')) (by simp)
            have HROW9 := Lib.hid hrow9
            obtain ⟨o9, k9, rfl, -⟩ := row_form hrow9
            have hr8' := HR'.out.2
            clear hf9 hb9 hc9 hrow9 HLK2
            go_wp2
            go_loopg [17] rs'.length (fun g s17 wr => ∃ q : Nat, q + g = rs'.length ∧ s17 = .int .i64 q ∧ Chg (fun _ => False) w9 wr)
            case atStart => exact ⟨0, by omega, rfl, Chg.refl _ _⟩
            case round =>
              rename World => wb
              obtain ⟨q, hqg, rfl, hcq⟩ := hrel
              have HQG := Lib.hid hqg
              have HCQ := Lib.hid hcq
              by_cases hql : q < rs'.length
              · have hql' : (q : Int) < (rs'.length : Int) := by omega
                obtain ⟨r9, hr9⟩ : ∃ r, rs'[q]? = some r := ⟨_, List.getElem?_eq_getElem hql⟩
                obtain ⟨g9, c9, cur9, e9, -, -, -, -, -, hat⟩ := row_at (row_frame HROW9.out hcq fun _ _ => id) (by omega)
                simp only [Value.slice.injEq] at e9
                obtain ⟨rfl, -, rfl⟩ := e9
                have c0 := hat _ _ (cells_at rs' q r9 hr9).1
                have c1 := hat _ _ (cells_at rs' q r9 hr9).2
                have hB := HB9.out.still hcq
                have hm9 := things_mem (base := w.heap.size) (List.mem_of_getElem? hr9)
                have HAL := Lib.hid (alike_ok (hB.mem (t := rdT w.heap.size r9.1 r9.2.2.1 r9.2.2.2.2) (List.mem_cons_of_mem _ hm9.1) : RdIs wb w.heap.size r9.1 r9.2.2.1 r9.2.2.2.2) (hB.mem (t := vdT w.heap.size r9.2.1 r9.2.2.2.1 r9.2.2.2.2) (List.mem_cons_of_mem _ hm9.2) : VdIs wb w.heap.size r9.2.1 r9.2.2.2.1 r9.2.2.2.2))
                have HQL := Lib.hid hql
                clear hqg hcq hat hB hm9 hr9 hql
                go_wp2_with fail
                refine HAL.out.mono ?_
                rintro e w10 ⟨rfl, hc10⟩
                have HC10 := Lib.hid (HCQ.out.trans hc10 fun _ _ => id)
                clear hc10 HAL c0 c1
                go_wp2
                go_roundg (rs'.length - (q + 1))
                case measure => have := HQL.out; have := HQG.out; omega
                case rel => exact ⟨q + 1, by have := HQL.out; omega, by go_num, HC10.out⟩
              · have hqe : q = rs'.length := by omega
                clear hqg hql hcq
                subst hqe
                go_wp2
                go_roundg (200 - (i + 1))
                case measure => have := HIG.out; omega
                case rel => exact ⟨i + 1, rs', bs9, _, by omega, by go_num, rfl, HR'.out.1, HR'.out.2, HRX'.out, HF9.out.more (by omega), HB9.out.still HCQ.out, HC9.out.trans HCQ.out fun _ _ h => h.elim⟩
        · have q2' : ¬ ((i : Int) < 200) := by omega
          clear hig q2 q1
          go_wp2_with fail
          refine HLK.out.mono ?_
          rintro e w6 ⟨rfl, ⟨bs2, hf2, hb2⟩, hc6⟩
          have HC6 := Lib.hid (HCH.out.trans hc6 fun _ _ h => h)
          have HLK2 := Lib.hid (looks_few hb2 HC6.out.size hf2 HI2.out)
          clear hf2 hb2 hc6 HLK
          go_wp2_with fail
          refine HLK2.out.mono ?_
          rintro e w7 ⟨rfl, -, hc7⟩
          have HC7 := Lib.hid (HC6.out.trans hc7 fun _ _ h => h)
          clear hc7
          go_wp2
          go_ret
          exact ⟨rfl, HC7.out.mono fun i hi h => by omega⟩
      · have q1' : ¬ ((i : Int) < (ps.length : Int)) := by omega
        clear hig q1
        go_wp2_with fail
        refine HLK.out.mono ?_
        rintro e w6 ⟨rfl, ⟨bs2, hf2, hb2⟩, hc6⟩
        have HC6 := Lib.hid (HCH.out.trans hc6 fun _ _ h => h)
        have HLK2 := Lib.hid (looks_few hb2 HC6.out.size hf2 HI2.out)
        clear hf2 hb2 hc6 HLK
        go_wp2_with fail
        refine HLK2.out.mono ?_
        rintro e w7 ⟨rfl, -, hc7⟩
        have HC7 := Lib.hid (HC6.out.trans hc7 fun _ _ h => h)
        clear hc7
        go_wp2
        go_ret
        exact ⟨rfl, HC7.out.mono fun i hi h => by omega⟩
theorem reads_row (w : World) (hT : TableAt w) {v : Value} (h : ∃ us, BytesIs w v us ∧ us.length ≤ 140737488355328) {v1 : Value} (h1 : ∃ ps, OpsAre w v1 ps) :
    Calls Tryd.prog 6 #[v, v1] w fun e w' => e = .returned (.bool true) ∧ Chg (fun _ => False) w w' := by
  obtain ⟨us, hb, hl⟩ := h
  obtain ⟨ps, hp⟩ := h1
  exact reads_walk w hT hb hl hp
end Go.Proofs.YtfihpiommicdbaaDoor
