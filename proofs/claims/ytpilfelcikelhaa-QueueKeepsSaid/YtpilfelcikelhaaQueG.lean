/- Ports: contract of Turn. No condition. -/
import Derived.Test.YtpilfelcikelhaaQueF
namespace Go.Proofs.Ytpilfelcikelhaa
open Go.RowKit Go.Cl
set_option linter.unusedVariables false
set_option linter.unusedSimpArgs false
attribute [local go_sem] lt_add_one' blk_alloc_past blk_alloc_at blk_drew blk_setCell_ne
attribute [local go_sem ↓] Go.wp_at_zero Go.wp_at_succ

theorem turn_who {w : World} {b : Nat} {qv sv : Value} {q : QT} {s : PS} (h : PortIs w b qv sv q s) {who : Int} (hw : who ≠ q.writer) :
    Calls Try.prog 13 #[ptrV b, .int .i64 who] w fun e w' => e = .returned (.int .i64 0) ∧ w = w' := by
  obtain ⟨hb, _, _, _, f3, _⟩ := h.facts
  unfold ptrV
  have h1 : (who != q.writer) = true := by simpa using hw
  go_enter Try.func13, Try.ntmps13
  go_wp2
  go_ret
  exact ⟨rfl, rfl⟩

/-- How many messages join. -/
def joins (q : QT) (s : PS) : Nat := min s.ss.length (q.depth.toNat - s.qs.length)

def lens : List Msg → Nat
  | [] => 0
  | m :: r => m.1.length + lens r

def PS.turned (q : QT) (s : PS) : PS := ⟨s.acc, s.rcv, s.lost + (s.ss.length - joins q s : Nat), s.qs ++ s.ss.take (joins q s), []⟩

theorem lens_append (a c : List Msg) : lens (a ++ c) = lens a + lens c := by
  induction a with
  | nil => simp [lens]
  | cons x a ih => simp [lens, ih]; omega
theorem lens_next {l : List Msg} {i : Nat} (h : i < l.length) : lens (l.take (i + 1)) = lens (l.take i) + l[i].1.length := by
  rw [List.take_add_one, List.getElem?_eq_getElem h, lens_append]
  simp [lens]
theorem lens_bound {q : QT} (hq : q.size ≤ 256) : ∀ (l : List Msg), (∀ m ∈ l, MsgOk q m) → lens l ≤ 256 * l.length
  | [], _ => by simp [lens]
  | m :: l, h => by
    have h1 := (h m (by simp)).1
    have h2 := lens_bound hq l fun m' hm => h m' (by simp [hm])
    simp [lens]
    omega
theorem lens_le {q : QT} {s : PS} (h : Fine q s) (i : Nat) : lens (s.ss.take i) ≤ 8192 := by
  have h1 := lens_bound h.may.s2 (s.ss.take i) fun m hm => h.oks m (List.mem_of_mem_take hm)
  have h2 := h.lens.2
  simp at h1
  omega

theorem MsgsAre.one {w : World} {cs : List Value} {ms : List Msg} (h : MsgsAre w cs ms) : ∀ u ∈ cs, u.oneCell' = true := fun u hu => by
  obtain ⟨j, hj, rfl⟩ := List.getElem_of_mem hu
  have hl := h.len
  by_cases he : j % 2 = 0
  · obtain ⟨d, k1, k2, k3, k4⟩ := h.each (j / 2) ms[j / 2] (List.getElem?_eq_getElem (by omega))
    rw [show 2 * (j / 2) = j by omega, List.getElem?_eq_getElem hj] at k1
    rw [Option.some.inj k1]
    exact k4
  · obtain ⟨d, k1, k2, k3, k4⟩ := h.each (j / 2) ms[j / 2] (List.getElem?_eq_getElem (by omega))
    rw [show 2 * (j / 2) + 1 = j by omega, List.getElem?_eq_getElem hj] at k2
    rw [Option.some.inj k2]
    rfl

/-- A row's first part as what is appended. -/
theorem src_cut {w : World} {base : Nat} {e : TypeId} {size n cap k : Nat} {oa : Option Addr} {cs : List Value} (h : w.ownsRow base e size (.slice oa n cap) n cs) (h1 : ∀ u ∈ cs, u.oneCell' = true) (hk : k ≤ n) : SrcIs w size oa k (cs.take (k * size)) := by
  obtain ⟨oa', c', hv, hs, _⟩ := src_of_row (row_cut h hk) fun u hu => h1 u (List.mem_of_mem_take hu)
  simp at hv
  obtain ⟨rfl, rfl⟩ := hv
  exact hs

theorem MsgsAre.append {w : World} {c1 c2 : List Value} {m1 m2 : List Msg} (h1 : MsgsAre w c1 m1) (h2 : MsgsAre w c2 m2) : MsgsAre w (c1 ++ c2) (m1 ++ m2) := by
  have l1 := h1.len
  have l2 := h2.len
  refine ⟨by simp [l1, l2]; omega, fun i m hm => ?_⟩
  by_cases hi : i < m1.length
  · rw [List.getElem?_append_left hi] at hm
    obtain ⟨d, a1, a2, a3, a4⟩ := h1.each i m hm
    exact ⟨d, by rw [List.getElem?_append_left (by omega)]; exact a1, by rw [List.getElem?_append_left (by omega)]; exact a2, a3, a4⟩
  · rw [List.getElem?_append_right (by omega)] at hm
    obtain ⟨d, a1, a2, a3, a4⟩ := h2.each _ m hm
    refine ⟨d, ?_, ?_, a3, a4⟩
    · rw [List.getElem?_append_right (by omega), ← a1]; congr 1; omega
    · rw [List.getElem?_append_right (by omega), ← a2]; congr 1; omega

theorem MsgsAre.take {w : World} {cs : List Value} {ms : List Msg} (h : MsgsAre w cs ms) {k : Nat} (hk : k ≤ ms.length) : MsgsAre w (cs.take (k * 2)) (ms.take k) := by
  have l := h.len
  refine ⟨by rw [List.length_take, List.length_take, l]; omega, fun i m hm => ?_⟩
  have hi : i < k := by
    have := (List.getElem?_eq_some_iff.1 hm).1
    simp at this
    omega
  rw [List.getElem?_take_of_lt hi] at hm
  obtain ⟨d, a1, a2, a3, a4⟩ := h.each i m hm
  exact ⟨d, by rw [List.getElem?_take_of_lt (by omega)]; exact a1, by rw [List.getElem?_take_of_lt (by omega)]; exact a2, a3, a4⟩

theorem turn_end {w wa w3 : World} {b j : Nat} {qv sv v2 : Value} {q : QT} {s : PS} {csq csl : List Value} (h : PortIs w b qv sv q s) (hca : Chg (fun _ => False) w wa)
    (hown : w3.ownsRow 0 76 2 v2 (s.qs.length + j) (csq ++ csl.take (j * 2))) (hg : wa.grownBy w3 qv.ownBlock) (hl : v2.ownBlock = qv.ownBlock ∨ v2.ownBlock = some wa.heap.size)
    (hmq : MsgsAre wa csq s.qs) (hms : MsgsAre wa csl s.ss) (hj : j = joins q s) :
    PortIs (((w3.setCell ⟨b, 9, none⟩ v2).setCell ⟨b, 2, none⟩ (.int .i64 (s.lost + ((s.ss.length : Int) - j)))).setCell ⟨b, 10, none⟩ (.slice none 0 0)) b v2 (.slice none 0 0) q (s.turned q) ∧
      Chg (fun i => i = b ∨ some i = qv.ownBlock) w (((w3.setCell ⟨b, 9, none⟩ v2).setCell ⟨b, 2, none⟩ (.int .i64 (s.lost + ((s.ss.length : Int) - j)))).setCell ⟨b, 10, none⟩ (.slice none 0 0)) ∧ (∀ i, some i = v2.ownBlock → some i = qv.ownBlock ∨ w.heap.size ≤ i) := by
  obtain ⟨n1, n2⟩ := h.stNe
  have hj2 : j ≤ s.ss.length := by rw [hj]; unfold joins; omega
  have c1 : Chg (fun i => some i = qv.ownBlock) w w3 := hca.step (Chg.of_grown hg) (fun _ _ h => h.elim) fun _ _ h => h
  have hst3 := c1.blk' h.st n1
  have cb : Chg (fun i => i = b) w3 (((w3.setCell ⟨b, 9, none⟩ v2).setCell ⟨b, 2, none⟩ (.int .i64 (s.lost + ((s.ss.length : Int) - j)))).setCell ⟨b, 10, none⟩ (.slice none 0 0)) :=
    (((Chg.refl (fun i => i = b) w3).setCell (p := ⟨b, 9, none⟩) (fun _ => rfl) _).setCell (p := ⟨b, 2, none⟩) (fun _ => rfl) _).setCell (p := ⟨b, 10, none⟩) (fun _ => rfl) _
  have c2 : Chg (fun i => i = b ∨ some i = qv.ownBlock) w (((w3.setCell ⟨b, 9, none⟩ v2).setCell ⟨b, 2, none⟩ (.int .i64 (s.lost + ((s.ss.length : Int) - j)))).setCell ⟨b, 10, none⟩ (.slice none 0 0)) := c1.step cb (fun _ _ h => .inr h) fun _ _ h => .inl h
  have hb5 : ∀ i cur fr, i = b → blk w3 i ≠ some (.cells cur 5 fr) := by
    rintro i cur fr rfl e
    rw [hst3] at e
    simp only [Option.some.injEq, Obj.cells.injEq] at e
    exact absurd e.2.1 (by decide)
  have hq5 : ∀ i cur fr, some i = qv.ownBlock → blk wa i ≠ some (.cells cur 5 fr) := by
    intro i cur fr hi e
    obtain ⟨cur', hc'⟩ := (h.frame0 hca).rq.block hi
    rw [hc'] at e
    simp only [Option.some.injEq, Obj.cells.injEq] at e
    exact absurd e.2.1 (by decide)
  have F := h.fine
  have hlen : (s.qs ++ s.ss.take j).length = s.qs.length + j := by simp; omega
  refine ⟨⟨?_, ?_, row_nil _, ?_, ?_⟩, c2, fun i hi => ?_⟩
  · rw [blk_setCell_eq, blk_setCell_eq, blk_setCell_eq, hst3]
    have e : s.lost + ((s.ss.length : Int) - j) = (s.turned q).lost := by unfold PS.turned; rw [← hj]; simp; omega
    rw [e]
    simp [objSet, PS.turned]
  · have e : (s.turned q).qs = s.qs ++ s.ss.take j := by unfold PS.turned; rw [← hj]
    rw [e]
    refine ⟨_, ?_, ((hmq.append (hms.take hj2)).frame (Chg.of_grown hg) hq5).frame cb hb5⟩
    rw [hlen]
    refine row_frame hown cb fun g hg' e => ?_
    subst e
    obtain ⟨_, cur, hc⟩ := row_block hown hg'
    rw [hst3] at hc
    simp only [Option.some.injEq, Obj.cells.injEq] at hc
    exact absurd hc.2.1 (by decide)
  · cases hv : v2.ownBlock with
    | none => exact .inl rfl
    | some x => exact .inr (by simp [Value.ownBlock])
  · have d0 := F.may.d1
    have hq := F.dq
    have hj3 : (s.qs.length : Int) + j ≤ q.depth := by rw [hj]; unfold joins; omega
    have hsum := F.sum
    refine ⟨F.may, ?_, F.r0, ?_, F.most, ?_, fun hf => ?_, fun hf => ?_, ?_, ?_⟩
    · unfold PS.turned; rw [← hj]; simp; omega
    · have := F.l0; unfold PS.turned; rw [← hj]; simp; omega
    · unfold PS.turned; rw [← hj]; simp; omega
    · have hfl := F.fl hf
      have : j = s.ss.length := by rw [hj]; unfold joins; omega
      unfold PS.turned; rw [← hj]; simp; omega
    · have := F.may.u1; unfold PS.turned; simp; omega
    · unfold PS.turned; rw [← hj]; intro m hm; simp at hm
      rcases hm with hm | hm
      · exact F.okq m hm
      · exact F.oks m (List.mem_of_mem_take hm)
    · unfold PS.turned; simp
  · rcases hl with h | h
    · exact .inl (hi.trans h)
    · rw [h] at hi
      obtain rfl := Option.some.inj hi
      exact .inr hca.size

set_option maxHeartbeats 1000000 in
set_option maxRecDepth 100000 in
theorem turn_ok {w : World} {b : Nat} {qv sv : Value} {q : QT} {s : PS} (h : PortIs w b qv sv q s) :
    Calls Try.prog 13 #[ptrV b, .int .i64 q.writer] w fun e w' => ∃ qv', e = .returned (.int .i64 (lens (s.ss.take (joins q s)))) ∧ PortIs w' b qv' (.slice none 0 0) q (s.turned q) ∧
      Chg (fun i => i = b ∨ some i = qv.ownBlock) w w' ∧ (∀ i, some i = qv'.ownBlock → some i = qv.ownBlock ∨ w.heap.size ≤ i) := by
  obtain ⟨hb, _, _, f2, f3, _, _, f6, _, _, f9, f10⟩ := h.facts
  obtain ⟨oq, cq, rfl, hq1, hq2, hq3⟩ := h.rq.form
  obtain ⟨os, cs, rfl, hs1, hs2, hs3⟩ := h.rs.form
  obtain ⟨l1, l2⟩ := h.fine.lens
  have d1 := h.fine.may.d1
  have d2 := h.fine.may.d2
  have dq := h.fine.dq
  unfold maxLen at hq2 hs2
  have H := Lib.hid h
  clear h
  obtain ⟨D, hD⟩ : ∃ D : Nat, q.depth = D := ⟨q.depth.toNat, by omega⟩
  have hj : joins q s = min s.ss.length (D - s.qs.length) := by unfold joins; rw [hD]; simp
  obtain ⟨j, hj2⟩ : ∃ j, j = joins q s := ⟨_, rfl⟩
  rw [← hj2] at hj ⊢
  have HJ := Lib.hid hj2
  rw [hD] at f6 d1 d2 dq
  have HD := Lib.hid hD
  unfold ptrV
  have e1 : IntKind.i64.wrap ((D : Int) - s.qs.length) = (D : Int) - s.qs.length := by rw [IntKind.wrap_i64]; omega
  have e2 : (if (D : Int) - s.qs.length < (s.ss.length : Int) then (D : Int) - s.qs.length else (s.ss.length : Int)) = j := by
    split <;> omega
  have js : j ≤ s.ss.length := by omega
  have HS := Lib.hid js
  have jc : (j : Int) ≤ (cs : Int) := by omega
  have hjq : s.qs.length + j ≤ D := by omega
  have HS3 := Lib.hid hs3
  clear hj hj2 hD hq3 hs3
  go_enter Try.func13, Try.ntmps13
  go_wp2
  go_region_held3 (fun w' => w'.cell? ⟨b, 6, none⟩ = some (.int .i64 D) ∧ w'.cell? ⟨b, 9, none⟩ = some (.slice oq s.qs.length cq) ∧ w'.cell? ⟨b, 10, none⟩ = some (.slice os s.ss.length cs)) (go_keep) (fail)
  clear e1 e2
  go_wp2
  go_loopg [6, 40] j (fun g s6 s40 wr => ∃ i : Nat, i + g = j ∧ s40 = .int .i64 i ∧ s6 = .int .i64 (lens (s.ss.take i)) ∧ Chg (fun _ => False) w wr)
  case atStart => exact ⟨0, by omega, rfl, by simp [lens], (Chg.refl _ _).drew⟩
  case round =>
    obtain ⟨i, hig, rfl, rfl, hc⟩ := hrel
    have IG := Lib.hid hig
    have HC := Lib.hid hc
    cases gk with
    | zero =>
      have hin : ¬ ((i : Int) < (j : Int)) := by omega
      obtain rfl : i = j := by omega
      have hrs := (H.out.frame0 hc).rs
      obtain ⟨csl, hrow, hms⟩ := hrs
      have hone := hms.one
      have hsrc := fun (wy : World) (hy : Chg (fun _ => False) wr wy) => src_cut (row_frame hrow hy fun _ _ => id) hone HS.out
      obtain ⟨csq, hrowq, hmsq⟩ := (H.out.frame0 hc).rq
      have hrq := fun (wy : World) (hy : Chg (fun _ => False) wr wy) => row_frame hrowq hy fun _ _ => id
      have hs0 : os = none → cs = 0 := fun h => (HS3.out.1 h).2
      have HSrc := Lib.hid hsrc
      have HRQ := Lib.hid hrq
      have HMQ := Lib.hid hmsq
      have HMS := Lib.hid hms
      obtain ⟨i0, hi, hz0, hz1, hz2⟩ := info76z
      have y2 := cell_frame hc (fun _ _ => id) f2
      have y9 := cell_frame hc (fun _ _ => id) f9
      have y10 := cell_frame hc (fun _ _ => id) f10
      have hst := hc.blk' H.out.st id
      have z9 := frozen_of_blk hst 9
      have z2 := frozen_of_blk hst 2
      have z10 := frozen_of_blk hst 10
      have hbr := blk_lt hst
      have hbq : some b ≠ (Value.slice oq s.qs.length cq).ownBlock := H.out.stNe.1
      have ha0 := H.out.fine.sum
      have ha1 := H.out.fine.r0
      have ha2 := H.out.fine.l0
      have ha3 := H.out.fine.most
      have hl1 : 0 ≤ s.lost := ha2
      have hl2 : s.lost ≤ 1152921504606846976 := by omega
      clear hig hc hrow hms hone hsrc hrowq hmsq hrq f2 f9 f10 hst ha0 ha1 ha2 ha3
      go_wp2
      go_region_law (first | ((refine step_app rfl _ _ _ (by rfl) 0 76 i0 _ 2 32 Try.underlying62 hi hz0 hz1 hz2 (by rfl) (by decide) (.slice oq s.qs.length cq) s.qs.length csq (by rfl) (HRQ.out _ ((Chg.refl _ _).drew)) os i cs (csl.take (i * 2)) (by rfl) (HSrc.out _ ((Chg.refl _ _).drew)) hs0 (by unfold maxLen; omega) (by omega) (Nat.zero_le _) ?_; intro v2 w3 hown hgrow hlie; obtain ⟨ov, cv, rfl, hv1, hv2, _⟩ := row_form hown; have q9 := (hgrow.cell_far ⟨b, 9, none⟩ hbr hbq).trans y9; have q2 := (hgrow.cell_far ⟨b, 2, none⟩ hbr hbq).trans y2; have q10 := (hgrow.cell_far ⟨b, 10, none⟩ hbr hbq).trans y10; have p9 := (hgrow.frozen_far ⟨b, 9, none⟩ hbr hbq).trans (z9); have p2 := (hgrow.frozen_far ⟨b, 2, none⟩ hbr hbq).trans (z2); have p10 := (hgrow.frozen_far ⟨b, 10, none⟩ hbr hbq).trans (z10); have hb3 := World.block_lt_of_cell? _ _ q9; have HO := Lib.hid hown; have HG := Lib.hid hgrow; have HLi := Lib.hid hlie; clear hown hgrow hlie)))
      all_goals
        obtain ⟨w4, hw4⟩ : ∃ w4, w4 = w3.setCell ⟨b, 9, none⟩ (.slice ov (s.qs.length + i) cv) := ⟨_, rfl⟩
        have r2 : w4.cell? ⟨b, 2, none⟩ = some (.int .i64 s.lost) := by rw [hw4]; rw [World.cell?_setCell_other _ _ _ _ (by simp)]; exact q2
        have r10 : w4.cell? ⟨b, 10, none⟩ = some (.slice os s.ss.length cs) := by rw [hw4]; rw [World.cell?_setCell_other _ _ _ _ (by simp)]; exact q10
        have o2 : w4.frozen? ⟨b, 2, none⟩ = false := by rw [hw4]; rw [World.frozen?_setCell]; exact p2
        have o10 : w4.frozen? ⟨b, 10, none⟩ = false := by rw [hw4]; rw [World.frozen?_setCell]; exact p10
        have hb4 := World.block_lt_of_cell? _ _ r2
        rw [← hw4]
        have HW4 := Lib.hid hw4
        have e3 : IntKind.i64.wrap ((s.ss.length : Int) - i) = (s.ss.length : Int) - i := by rw [IntKind.wrap_i64]; omega
        have e4 : IntKind.i64.wrap (s.lost + ((s.ss.length : Int) - i)) = s.lost + ((s.ss.length : Int) - i) := by rw [IntKind.wrap_i64]; omega
        clear hw4 q9 q2 q10 p9 p2 p10 y2 y9 y10 z9 z2 z10
        go_wp2
        go_region
        have hb5 := hb4
        have s10 : ((w4.setCell ⟨b, 2, none⟩ (.int .i64 (s.lost + ((s.ss.length : Int) - i)))).drew).cell? ⟨b, 10, none⟩ = some (.slice os s.ss.length cs) := by
          show (w4.setCell ⟨b, 2, none⟩ (.int .i64 (s.lost + ((s.ss.length : Int) - i)))).cell? _ = _
          rw [World.cell?_setCell_other _ _ _ _ (by simp)]
          exact r10
        go_wp2
        go_ret
        rw [HW4.out]
        have E := turn_end H.out (HC.out.drew) HO.out HG.out HLi.out (HMQ.out.frame (Chg.drew (Chg.refl (fun _ => False) wr)) fun _ _ _ h => h.elim) (HMS.out.frame (Chg.drew (Chg.refl (fun _ => False) wr)) fun _ _ _ h => h.elim) HJ.out
        exact ⟨_, rfl, E.1.frame0 (Chg.refl _ _).drew, E.2.1.drew, E.2.2⟩
    | succ g =>
      have hin : (i : Int) < (j : Int) := by omega
      have hlt : i < s.ss.length := by omega
      obtain ⟨csl, hrow, hms⟩ := (H.out.frame0 hc).rs
      obtain ⟨gs, cap, cur, hv, _, hnc, hcm, hgb, hgs, hgx⟩ := row_at hrow (by omega)
      simp at hv
      obtain ⟨rfl, rfl⟩ := hv
      obtain ⟨dv, x0, x1, hdv, hd1⟩ := hms.each i _ (List.getElem?_eq_getElem hlt)
      obtain ⟨od, cd, rfl, _, hd2, hd3, _⟩ := hdv.src
      have y0 := hgx _ _ x0
      have y1 := hgx _ _ x1
      rw [Nat.mul_comm 2 i] at y0 y1
      have hm := H.out.fine.oks _ (List.getElem_mem hlt)
      have hm2 := H.out.fine.may.s2
      have hm3 : (s.ss[i].1.length : Int) ≤ 256 := by have := hm.1; omega
      have hln := lens_next hlt
      have hle := lens_le (H.out.fine) i
      generalize s.ss[i] = m at *
      have hgl := World.block_lt_of_cell? _ _ y0
      have HLN := Lib.hid hln
      obtain ⟨L, hL⟩ : ∃ L, L = lens (s.ss.take i) := ⟨_, rfl⟩
      obtain ⟨M, hM⟩ : ∃ M, M = m.1.length := ⟨_, rfl⟩
      rw [← hL] at hle ⊢
      rw [← hM] at hm3 hd2 y0
      have HLM := Lib.hid (And.intro hL hM)
      unfold maxLen at hd3
      have hM1 : (M : Int) ≤ 256 := hm3
      have hL1 : (L : Int) ≤ 8192 := by omega
      clear hig hc hrow hms hgb hgs hgx x0 x1 hdv hm hm2 hln hL hM hm3 hle
      go_wp2
      go_roundg g
      case measure => omega
      case rel =>
        refine ⟨i + 1, by have := IG.out; omega, by go_num, ?_, HC.out.alloc _⟩
        rw [HLN.out, ← HLM.out.1, ← HLM.out.2]
        simp
end Go.Proofs.Ytpilfelcikelhaa
