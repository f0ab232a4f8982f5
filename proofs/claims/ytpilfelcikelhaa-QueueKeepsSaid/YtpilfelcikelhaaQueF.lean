/- Ports: contract of Receive. No condition. -/
import Derived.Test.YtpilfelcikelhaaQueE
namespace Go.Proofs.Ytpilfelcikelhaa
open Go.RowKit Go.Cl
set_option linter.unusedVariables false
set_option linter.unusedSimpArgs false
attribute [local go_sem] lt_add_one' blk_alloc_past blk_alloc_at blk_drew blk_setCell_ne
attribute [local go_sem ↓] Go.wp_at_zero Go.wp_at_succ

theorem recv_who {w : World} {b : Nat} {qv sv : Value} {q : QT} {s : PS} (h : PortIs w b qv sv q s) {who : Int} (hw : who ≠ q.reader) :
    Calls Try.prog 12 #[ptrV b, .int .i64 who] w fun e w' => e = .returned (.tuple #[.slice none 0 0, .int .u64 0, .bool false, .int .i64 171]) ∧ w = w' := by
  obtain ⟨hb, _, _, _, _, f4, _⟩ := h.facts
  unfold ptrV
  have h1 : (who != q.reader) = true := by simpa using hw
  go_enter Try.func12, Try.ntmps12
  go_wp2
  refine bodyPost_ret (v := .tuple #[.slice none 0 0, .int .u64 0, .bool false, .int .i64 171]) (by simp [results, Try.results12, go_sem]) rfl ⟨rfl, rfl⟩

theorem recv_none {w : World} {b : Nat} {qv sv : Value} {q : QT} {s : PS} (h : PortIs w b qv sv q s) (hs : s.qs = []) :
    Calls Try.prog 12 #[ptrV b, .int .i64 q.reader] w fun e w' => e = .returned (.tuple #[.slice none 0 0, .int .u64 0, .bool false, .int .i64 0]) ∧ w = w' := by
  obtain ⟨hb, _, _, _, _, f4, _, _, _, _, f9, _⟩ := h.facts
  obtain ⟨oa, c, rfl, _⟩ := h.rq.form
  rw [hs] at f9
  unfold ptrV
  go_enter Try.func12, Try.ntmps12
  go_wp2
  refine bodyPost_ret (v := .tuple #[.slice none 0 0, .int .u64 0, .bool false, .int .i64 0]) (by simp [results, Try.results12, go_sem]) rfl ⟨rfl, rfl⟩

def PS.took (s : PS) (r : List Msg) : PS := ⟨s.acc, s.rcv + 1, s.lost, r, s.ss⟩

/-- A row of messages without its first. -/
theorem MsgsAre.tail {w : World} {c0 c1 : Value} {cs : List Value} {m : Msg} {ms : List Msg} (h : MsgsAre w (c0 :: c1 :: cs) (m :: ms)) : MsgsAre w cs ms := by
  refine ⟨by have := h.len; simp at this; omega, fun i m' hm => ?_⟩
  obtain ⟨dv, h1, h2, h3, h4⟩ := h.each (i + 1) m' hm
  exact ⟨dv, h1, h2, h3, h4⟩


theorem recv_end {w wa w1 : World} {b g cap : Nat} {sv c0 c1 : Value} {q : QT} {s : PS} {m : Msg} {r : List Msg} {rest : List Value} (h : PortIs w b (.slice (some ⟨g, 0, none⟩) (r.length + 1) cap) sv q s) (hs : s.qs = m :: r) (hca : Chg (fun _ => False) w wa)
    (hr : w1.ownsRow 0 76 2 (.slice (some ⟨g, 0, none⟩) r.length cap) r.length rest) (hc : Chg (fun i => i = g) wa w1) (hms : MsgsAre w (c0 :: c1 :: rest) (m :: r)) :
    PortIs ((w1.setCell ⟨b, 9, none⟩ (.slice (some ⟨g, 0, none⟩) r.length cap)).setCell ⟨b, 1, none⟩ (.int .i64 (s.rcv + 1))) b (.slice (some ⟨g, 0, none⟩) r.length cap) sv q (s.took r) ∧
      Chg (fun i => i = b ∨ i = g) w ((w1.setCell ⟨b, 9, none⟩ (.slice (some ⟨g, 0, none⟩) r.length cap)).setCell ⟨b, 1, none⟩ (.int .i64 (s.rcv + 1))) := by
  obtain ⟨n1, n2⟩ := h.stNe
  have hbg : b ≠ g := fun e => n1 (by rw [e]; rfl)
  have c1 : Chg (fun i => i = g) w w1 := hca.step hc (fun _ _ h => h.elim) fun _ _ h => h
  have hst1 := c1.blk' h.st hbg
  have cb : Chg (fun i => i = b) w1 ((w1.setCell ⟨b, 9, none⟩ (.slice (some ⟨g, 0, none⟩) r.length cap)).setCell ⟨b, 1, none⟩ (.int .i64 (s.rcv + 1))) := ((Chg.refl (fun i => i = b) w1).setCell (p := ⟨b, 9, none⟩) (fun _ => rfl) _).setCell (p := ⟨b, 1, none⟩) (fun _ => rfl) _
  have c2 : Chg (fun i => i = b ∨ i = g) w ((w1.setCell ⟨b, 9, none⟩ (.slice (some ⟨g, 0, none⟩) r.length cap)).setCell ⟨b, 1, none⟩ (.int .i64 (s.rcv + 1))) := c1.step cb (fun _ _ h => .inr h) fun _ _ h => .inl h
  have hgt : ∃ cur, blk w g = some (.cells cur 76 (0, 0)) := h.rq.block rfl
  have hg5 : ∀ i cur fr, i = g → blk w i ≠ some (.cells cur 5 fr) := by
    rintro i cur fr rfl e
    obtain ⟨cur', hc'⟩ := hgt
    rw [hc'] at e
    simp only [Option.some.injEq, Obj.cells.injEq] at e
    exact absurd e.2.1 (by decide)
  have hb5 : ∀ i cur fr, i = b → blk w1 i ≠ some (.cells cur 5 fr) := by
    rintro i cur fr rfl e
    rw [hst1] at e
    simp only [Option.some.injEq, Obj.cells.injEq] at e
    exact absurd e.2.1 (by decide)
  have hb5' : ∀ i cur fr, i = b → blk w i ≠ some (.cells cur 5 fr) := by
    rintro i cur fr rfl e
    rw [h.st] at e
    simp only [Option.some.injEq, Obj.cells.injEq] at e
    exact absurd e.2.1 (by decide)
  refine ⟨⟨?_, ?_, ?_, ?_, ?_⟩, c2⟩
  · rw [blk_setCell_eq, blk_setCell_eq, hst1]
    simp [objSet, PS.took]
  · exact ⟨rest, row_frame hr cb fun g' hg' e => hbg (by cases hg'; exact e.symm), (hms.tail.frame c1 hg5).frame cb hb5⟩
  · refine h.rs.frame c2 ?_ ?_
    · rintro i cur fr (hi | hi)
      · exact hb5' i cur fr hi
      · exact hg5 i cur fr hi
    · rintro i hi (rfl | rfl)
      · exact n2 hi
      · rcases h.ne with hn | hn
        · cases hn
        · exact hn hi
  · exact h.ne
  · have F := h.fine
    have hq := F.dq
    have hsum := F.sum
    rw [hs] at hq hsum
    simp at hq hsum
    have := F.r0
    refine ⟨F.may, by simp [PS.took]; omega, by simp [PS.took]; omega, F.l0, F.most, by simp [PS.took]; omega, fun hf => ?_, F.nf, fun m' hm' => F.okq m' (by rw [hs]; exact List.mem_cons_of_mem _ hm'), F.oks⟩
    have := F.fl hf
    rw [hs] at this
    simp at this
    simp [PS.took]
    omega

set_option maxHeartbeats 1000000 in
set_option maxRecDepth 100000 in
theorem recv_ok {w : World} {b : Nat} {qv sv : Value} {q : QT} {s : PS} (h : PortIs w b qv sv q s) {m : Msg} {r : List Msg} (hs : s.qs = m :: r) :
    Calls Try.prog 12 #[ptrV b, .int .i64 q.reader] w fun e w' => ∃ v qv', e = .returned (.tuple #[v, .int .u64 m.2, .bool true, .int .i64 0]) ∧ PortIs w' b qv' sv q (s.took r) ∧
      w'.ownsRow w.heap.size 5 1 v m.1.length (u8s m.1) ∧ Chg (fun i => i = b ∨ some i = qv.ownBlock) w w' ∧ (∀ i, some i = qv'.ownBlock → some i = qv.ownBlock ∨ w.heap.size ≤ i) := by
  obtain ⟨hb, _, f1, _, _, f4, _, _, _, _, f9, _⟩ := h.facts
  obtain ⟨cs, hrow, hms⟩ := h.rq
  rw [hs] at hrow hms
  obtain ⟨c0, c1, rest, rfl⟩ : ∃ c0 c1 rest, cs = c0 :: c1 :: rest := by
    have hlen := hms.len
    clear hrow hms
    simp at hlen
    cases cs with
    | nil => simp at hlen
    | cons c0 t =>
      cases t with
      | nil => simp at hlen; omega
      | cons c1 rest => exact ⟨c0, c1, rest, rfl⟩
  obtain ⟨dv, e0, e1, hdv, hd1⟩ := hms.each 0 m rfl
  simp at e0 e1
  subst e0 e1
  obtain ⟨g, cap, cur, rfl, _, hnc, hcm, hgb, hgs, hgx⟩ := row_at hrow (by simp)
  have x0 := hgx 0 _ rfl
  have x1 := hgx 1 _ rfl
  obtain ⟨od, cd, rfl, hsd, hd2, hd3, hd4⟩ := hdv.src
  have hl := h.fine.lens.1
  have hml : m.1.length ≤ 256 := by
    have h1 := (h.fine.okq m (by rw [hs]; simp)).1
    have h2 := h.fine.may.s2
    omega
  rw [hs] at hl
  simp at hl
  have hone : ∀ u ∈ rest, u.oneCell' = true := fun u hu => by
    obtain ⟨j, hj, rfl⟩ := List.getElem_of_mem hu
    have hl := hms.tail.len
    by_cases he : j % 2 = 0
    · obtain ⟨d, k1, k2, k3, k4⟩ := hms.tail.each (j / 2) r[j / 2] (List.getElem?_eq_getElem (by omega))
      rw [show 2 * (j / 2) = j by omega, List.getElem?_eq_getElem hj] at k1
      rw [Option.some.inj k1]
      exact k4
    · obtain ⟨d, k1, k2, k3, k4⟩ := hms.tail.each (j / 2) r[j / 2] (List.getElem?_eq_getElem (by omega))
      rw [show 2 * (j / 2) + 1 = j by omega, List.getElem?_eq_getElem hj] at k2
      rw [Option.some.inj k2]
      rfl
  have hgl : g < w.heap.size := blk_lt hgb
  have hzb := frozen_of_blk h.st
  obtain ⟨_, _, _, _, _, _, _, _, _, _, _, _, _, _, _, _, _, _⟩ := lts hb
  obtain ⟨_, _, _, _, _, _, _, _, _, _, _, _, _, _, _, _, _, _⟩ := lts hgl
  have H := Lib.hid h
  have HR := Lib.hid hrow
  have HM := Lib.hid hms
  have HD := Lib.hid hdv
  have HO := Lib.hid hone
  have HS := Lib.hid hsd
  have HL := Lib.hid hl
  have HML := Lib.hid hml
  have HQS := Lib.hid hs
  have hca : Chg (fun _ => False) w (w.alloc (.cells #[.slice od m.1.length cd, .int .u64 m.2] 76 (0, 0))) := (Chg.refl _ _).alloc _
  have hba : blk (w.alloc (.cells #[.slice od m.1.length cd, .int .u64 m.2] 76 (0, 0))) w.heap.size = some (.cells #[.slice od m.1.length cd, .int .u64 m.2] 76 (0, 0)) := blk_alloc_at _ _ _ rfl
  have HCA := Lib.hid hca
  have HBA := Lib.hid hba
  clear h hrow hms hdv hone hsd hl hml hs hca hba hgb hgs hgx
  unfold ptrV
  simp only [List.length_cons] at *
  go_enter Try.func12, Try.ntmps12
  go_wp2_with fail
  refine (delete_ok (n := r.length) (row_frame HR.out HCA.out fun _ _ => id) HO.out (by have := HL.out; omega)).mono ?_
  rintro e w1 ⟨rfl, hr1, hc1⟩
  have E1 := Lib.hid (recv_end H.out HQS.out HCA.out hr1 hc1 HM.out)
  have hgb2 : b ≠ g := fun e => H.out.stNe.1 (by rw [e]; rfl)
  have hst1 := (HCA.out.step (S := fun i => i = g) hc1 (fun _ _ h => h.elim) fun _ _ h => h).blk' H.out.st hgb2
  have y9 := cell_of_blk hst1 9
  have y1 := cell_of_blk hst1 1
  have z9 := frozen_of_blk hst1 9
  have z1 := frozen_of_blk hst1 1
  have hb1 := blk_lt hst1
  have hL1 := hc1.blk' HBA.out (by omega)
  have l0 := cell_of_blk hL1 0
  have l1 := cell_of_blk hL1 1
  have hlw1 := blk_lt hL1
  have hrb := H.out.fine.sum
  have hrb1 := H.out.fine.r0
  have hrb2 := H.out.fine.l0
  have hrb3 := H.out.fine.most
  have hrb4 : s.rcv + 1 ≤ 9223372036854775807 := by omega
  have hLb : w.heap.size ≠ b := by omega
  have HRB := Lib.hid (And.intro hrb1 hrb4)
  have HC1 := Lib.hid hc1
  have HST1 := Lib.hid hst1
  clear hrb hrb2 hrb3 hr1 hc1 hst1 hL1
  go_wp2_with fail
  obtain ⟨w2, hw2⟩ : ∃ w2, w2 = (w1.setCell ⟨b, 9, none⟩ (.slice (some ⟨g, 0, none⟩) r.length cap)).setCell ⟨b, 1, none⟩ (.int .i64 (s.rcv + 1)) := ⟨_, rfl⟩
  have k0 : w2.cell? ⟨w.heap.size, 0, none⟩ = some (.slice od m.1.length cd) := by rw [hw2]; exact (World.cell?_of_block ((blk_setCell_ne _ _ _ _ hLb).trans (blk_setCell_ne _ _ _ _ hLb))).trans l0
  have k1 : w2.cell? ⟨w.heap.size, 1, none⟩ = some (.int .u64 m.2) := by rw [hw2]; exact (World.cell?_of_block ((blk_setCell_ne _ _ _ _ hLb).trans (blk_setCell_ne _ _ _ _ hLb))).trans l1
  rw [← hw2] at E1 ⊢
  have hd2 : BytesIs w2 (.slice od m.1.length cd) m.1 := HD.out.frame E1.out.2 fun i cur fr hi => by
    rcases hi with rfl | rfl
    · rw [H.out.st]
      intro e
      simp only [Option.some.injEq, Obj.cells.injEq] at e
      exact absurd e.2.1 (by decide)
    · obtain ⟨cur', hc'⟩ := H.out.rq.block (i := i) rfl
      rw [hc']
      intro e
      simp only [Option.some.injEq, Obj.cells.injEq] at e
      exact absurd e.2.1 (by decide)
  obtain ⟨oa', c', hv', hs2, _⟩ := hd2.src
  simp at hv'
  obtain ⟨rfl, rfl⟩ := hv'
  have hcl := fun wy (hy : Chg (fun _ => False) w2 wy) => clone_any (hs2.frame hy fun _ _ => id) hd4 (by have := HML.out; omega)
  have HCl := Lib.hid hcl
  clear hw2 l0 l1 hcl hd2 hs2
  go_region_held3 (fun w' => w'.cell? ⟨w.heap.size, 0, none⟩ = some (.slice od m.1.length cd) ∧ w'.cell? ⟨w.heap.size, 1, none⟩ = some (.int .u64 m.2)) (first | exact ⟨k0, k1⟩ | exact ⟨k0b, k1b⟩ | go_keep) (first | (go_at_call 24; refine (HCl.out _ (Chg.refl _ _).drew).mono ?_; rintro e w4 ⟨dv, rfl, hnil, hrowd, hcd⟩; obtain ⟨oe, ce, rfl, _⟩ := row_form hrowd; have k0b := cell_frame hcd (fun _ _ => id) k0; have k1b := cell_frame hcd (fun _ _ => id) k1; have HCd := Lib.hid hcd; have HRD := Lib.hid hrowd; clear hcd hrowd hnil))
  go_wp2
  refine bodyPost_ret (v := .tuple #[.slice oe m.1.length ce, .int .u64 m.2, .bool true, .int .i64 0]) (by simp [results, Try.results12, go_sem]) rfl ⟨_, _, rfl, E1.out.1.frame0 (Chg.trans (S := fun _ => False) (Chg.refl _ _).drew HCd.out fun _ _ h => h), ?_, ?_, ?_⟩
  · obtain ⟨r1, r2⟩ := HRD.out
    refine ⟨r1, ?_⟩
    rcases r2 with r2 | ⟨g', cap', cur', a1, a2, a3⟩
    · exact .inl r2
    · exact .inr ⟨g', cap', cur', a1, Nat.le_trans E1.out.2.size a2, a3⟩
  · exact E1.out.2.step (Chg.trans (S := fun _ => False) (Chg.refl _ _).drew HCd.out fun _ _ h => h) (fun i _ h => h.elim .inl fun h => .inr (by rw [h]; rfl)) fun _ _ h => h.elim
  · exact fun i hi => .inl hi
end Go.Proofs.Ytpilfelcikelhaa
