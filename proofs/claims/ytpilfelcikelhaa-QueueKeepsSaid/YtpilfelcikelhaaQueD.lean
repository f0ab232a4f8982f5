/- Ports: contract of Send. No condition. -/
import Derived.Test.YtpilfelcikelhaaQueC
import Derived.Test.YtpilfelcikelhaaLibMore
import Derived.Deep.RegionLaw
namespace Go.Proofs.Ytpilfelcikelhaa
open Go.RowKit Go.Cl
set_option linter.unusedVariables false
set_option linter.unusedSimpArgs false
attribute [local go_sem] lt_add_one' blk_alloc_past blk_alloc_at blk_drew blk_setCell_ne
attribute [local go_sem ↓] Go.wp_at_zero Go.wp_at_succ

theorem info76z : ∃ i, Try.prog.info? 76 = some i ∧ i.zero = some (.agg #[.slice none 0 0, .int .u64 0]) ∧ i.size = 2 ∧ i.bytes = 32 := ⟨_, rfl, by kernel_rfl, by kernel_rfl, by kernel_rfl⟩

def sendE (q : QT) (s : PS) (who : Int) (n : Nat) : Int := if who ≠ q.writer then 171 else if checkE q n ≠ 0 then checkE q n else if fullB q s = true then 173 else 0

def PS.sent (s : PS) (m : Msg) : PS := ⟨s.acc + 1, s.rcv, s.lost, s.qs, s.ss ++ [m]⟩

set_option maxRecDepth 100000 in
theorem send_bad {w : World} {b : Nat} {qv sv : Value} {q : QT} {s : PS} (h : PortIs w b qv sv q s) {who t : Int} {oa : Option Addr} {n c : Nat} (he : sendE q s who n ≠ 0) :
    Calls Try.prog 14 #[ptrV b, .int .i64 who, .int .u64 t, .slice oa n c] w fun e w' => e = .returned (.int .i64 (sendE q s who n)) ∧ Chg (fun _ => False) w w' := by
  obtain ⟨hb, _, _, _, f3, _⟩ := h.facts
  have K := Lib.hid (check_any h oa n c)
  have F := Lib.hid (full_any h)
  clear h
  unfold sendE at *
  unfold ptrV at *
  by_cases h1 : who = q.writer
  · subst h1
    by_cases h2 : checkE q n = 0
    · rw [h2] at K
      have h3 : fullB q s = true := by
        simp only [h2, ne_eq, not_true_eq_false, if_false] at he
        by_cases h : fullB q s = true
        · exact h
        · rw [if_neg h] at he; exact absurd rfl he
      rw [h3] at F
      clear he
      go_enter Try.func14, Try.ntmps14
      go_wp2_with fail
      refine K.out.mono ?_
      rintro e w1 ⟨rfl, rfl⟩
      go_wp2_with fail
      refine F.out.mono ?_
      rintro e w1 ⟨rfl, hc⟩
      have HC := Lib.hid hc
      clear hc
      go_wp2
      go_ret
      exact ⟨by simp [h2, h3], HC.out⟩
    · have h2b : (checkE q n != 0) = true := by simpa using h2
      clear he
      generalize checkE q n = e0 at *
      go_enter Try.func14, Try.ntmps14
      go_wp2_with fail
      refine K.out.mono ?_
      rintro e w1 ⟨rfl, rfl⟩
      go_wp2
      go_ret
      exact ⟨by simp [h2], Chg.refl _ _⟩
  · have h1b : (who != q.writer) = true := by simpa using h1
    go_enter Try.func14, Try.ntmps14
    go_wp2
    go_ret
    exact ⟨by simp [h1], Chg.refl _ _⟩


theorem MsgsAre.snoc {w : World} {cs : List Value} {ms : List Msg} (h : MsgsAre w cs ms) {dv : Value} {m : Msg} (hb : BytesIs w dv m.1) (h1 : dv.oneCell' = true) : MsgsAre w (cs ++ [dv, .int .u64 m.2]) (ms ++ [m]) := by
  have hl := h.len
  refine ⟨by simp [hl]; omega, fun i m' hm => ?_⟩
  rcases Nat.lt_trichotomy i ms.length with hlt | rfl | hgt
  · rw [List.getElem?_append_left hlt] at hm
    obtain ⟨d, h1, h2, h3, h4⟩ := h.each i m' hm
    exact ⟨d, by rw [List.getElem?_append_left (by omega)]; exact h1, by rw [List.getElem?_append_left (by omega)]; exact h2, h3, h4⟩
  · rw [List.getElem?_append_right (Nat.le_refl _)] at hm
    simp at hm
    subst hm
    refine ⟨dv, ?_, ?_, hb, h1⟩
    · rw [List.getElem?_append_right (by omega), show 2 * ms.length - cs.length = 0 by omega]; rfl
    · rw [List.getElem?_append_right (by omega), show 2 * ms.length + 1 - cs.length = 1 by omega]; rfl
  · rw [List.getElem?_eq_none (by simp; omega)] at hm
    cases hm

theorem PortIs.stNe {w : World} {b : Nat} {qv sv : Value} {q : QT} {s : PS} (h : PortIs w b qv sv q s) : some b ≠ qv.ownBlock ∧ some b ≠ sv.ownBlock := by
  constructor
  · intro e
    obtain ⟨cur, hc⟩ := h.rq.block e
    rw [h.st] at hc
    simp only [Option.some.injEq, Obj.cells.injEq] at hc
    exact absurd hc.2.1 (by decide)
  · intro e
    obtain ⟨cur, hc⟩ := h.rs.block e
    rw [h.st] at hc
    simp only [Option.some.injEq, Obj.cells.injEq] at hc
    exact absurd hc.2.1 (by decide)

/-- Blocks of bytes stay bytes while an owned row of messages grows. -/
theorem grown_bytes {w : World} {row : Option Nat} {base n : Nat} {v : Value} {cs : List Value} (hr : w.ownsRow base 76 2 v n cs) : ∀ i cur fr, some i = v.ownBlock → blk w i ≠ some (.cells cur 5 fr) := by
  intro i cur fr hi e
  obtain ⟨_, cur', hc⟩ := row_block hr hi.symm
  rw [hc] at e
  simp only [Option.some.injEq, Obj.cells.injEq] at e
  exact absurd e.2.1 (by decide)

theorem send_end {w wa w3 : World} {b : Nat} {qv sv v2 dv : Value} {q : QT} {s : PS} {xs : List Int} {t : Int} {cs : List Value} (h : PortIs w b qv sv q s) (hca : Chg (fun _ => False) w wa)
    (hra : wa.ownsRow 0 76 2 sv s.ss.length cs) (hms : MsgsAre w cs s.ss) (hdv : BytesIs wa dv xs) (hd1 : dv.oneCell' = true)
    (hown : w3.ownsRow 0 76 2 v2 (s.ss.length + 1) (cs ++ [dv, .int .u64 t])) (hg : wa.grownBy w3 sv.ownBlock) (hl : v2.ownBlock = sv.ownBlock ∨ v2.ownBlock = some wa.heap.size)
    (hx : ∀ b ∈ xs, 0 ≤ b ∧ b ≤ 255) (ht : 0 ≤ t ∧ t < 18446744073709551616) (hk : checkE q xs.length = 0) (hf : fullB q s = false) :
    PortIs ((w3.setCell ⟨b, 10, none⟩ v2).setCell ⟨b, 0, none⟩ (.int .i64 (s.acc + 1))) b qv v2 q (s.sent (xs, t)) ∧
      Chg (fun i => i = b ∨ some i = sv.ownBlock) w ((w3.setCell ⟨b, 10, none⟩ v2).setCell ⟨b, 0, none⟩ (.int .i64 (s.acc + 1))) ∧ (∀ i, some i = v2.ownBlock → some i = sv.ownBlock ∨ w.heap.size ≤ i) := by
  obtain ⟨n1, n2⟩ := h.stNe
  have hblt := blk_lt h.st
  have hbwa : b < wa.heap.size := Nat.lt_of_lt_of_le hblt hca.size
  have c1 : Chg (fun i => some i = sv.ownBlock) w w3 := hca.step (Chg.of_grown hg) (fun _ _ h => h.elim) fun _ _ h => h
  have hst3 := c1.blk' h.st n2
  have cc : Chg (fun i => i = b ∨ some i = sv.ownBlock) w3 ((w3.setCell ⟨b, 10, none⟩ v2).setCell ⟨b, 0, none⟩ (.int .i64 (s.acc + 1))) := ((Chg.refl _ _).setCell (fun _ => .inl rfl) _).setCell (fun _ => .inl rfl) _
  have c2 : Chg (fun i => i = b ∨ some i = sv.ownBlock) w ((w3.setCell ⟨b, 10, none⟩ v2).setCell ⟨b, 0, none⟩ (.int .i64 (s.acc + 1))) := c1.step cc (fun _ _ h => .inr h) fun _ _ h => h
  have cb : Chg (fun i => i = b) w3 ((w3.setCell ⟨b, 10, none⟩ v2).setCell ⟨b, 0, none⟩ (.int .i64 (s.acc + 1))) := ((Chg.refl (fun i => i = b) w3).setCell (p := ⟨b, 10, none⟩) (fun _ => rfl) v2).setCell (p := ⟨b, 0, none⟩) (fun _ => rfl) _
  have hown2 : ∀ i, some i = v2.ownBlock → some i = sv.ownBlock ∨ w.heap.size ≤ i := fun i hi => by
    rcases hl with h | h
    · exact .inl (hi.trans h)
    · rw [h] at hi
      obtain rfl := Option.some.inj hi
      exact .inr hca.size
  have hb3 : ∀ i cur fr, i = b → blk w3 i ≠ some (.cells cur 5 fr) := by
    rintro i cur fr rfl e
    rw [hst3] at e
    simp only [Option.some.injEq, Obj.cells.injEq] at e
    exact absurd e.2.1 (by decide)
  refine ⟨⟨?_, ?_, ?_, ?_, ?_⟩, c2, hown2⟩
  · rw [blk_setCell_eq, blk_setCell_eq, hst3]
    simp [objSet, PS.sent]
  · refine h.rq.frame c2 ?_ ?_
    · rintro i cur fr (rfl | hi)
      · rw [h.st]
        intro e
        simp only [Option.some.injEq, Obj.cells.injEq] at e
        exact absurd e.2.1 (by decide)
      · obtain ⟨cur', hc⟩ := h.rs.block hi
        rw [hc]
        intro e
        simp only [Option.some.injEq, Obj.cells.injEq] at e
        exact absurd e.2.1 (by decide)
    · rintro i hi (rfl | hj)
      · exact n1 hi
      · rcases h.ne with hn | hn
        · rw [hn] at hi; cases hi
        · exact hn (hi.symm.trans hj)
  · refine ⟨_, ?_, (((hms.frame hca fun _ _ _ h => h.elim).snoc (m := (xs, t)) hdv hd1).frame (Chg.of_grown hg) (grown_bytes (row := none) hra)).frame cb hb3⟩
    have : (s.sent (xs, t)).ss.length = s.ss.length + 1 := by simp [PS.sent]
    rw [this]
    refine row_frame hown cb fun g hg' e => ?_
    subst e
    obtain ⟨_, cur, hc⟩ := row_block hown hg'
    rw [hst3] at hc
    simp only [Option.some.injEq, Obj.cells.injEq] at hc
    exact absurd hc.2.1 (by decide)
  · rcases h.ne with hn | hn
    · exact .inl hn
    · by_cases hq : qv.ownBlock = none
      · exact .inl hq
      · refine .inr fun e => ?_
        rcases hl with hl | hl
        · exact hn (e.trans hl)
        · rw [hl] at e
          obtain ⟨cur, hc⟩ := h.rq.block e.symm
          have := blk_lt hc
          have := hca.size
          omega
  · have F := h.fine
    have hfu : s.acc < 1152921504606846976 ∧ (q.flow = true → (s.qs.length : Int) + s.ss.length < q.depth) ∧ (q.flow = false → (s.ss.length : Int) < q.quota) := by
      unfold fullB at hf
      simp at hf
      refine ⟨by omega, fun hfl => ?_, fun hfl => ?_⟩
      · have := hf.2
        rw [if_pos hfl] at this
        simpa using this
      · have := hf.2
        rw [if_neg (by simp [hfl])] at this
        simpa using this
    refine ⟨F.may, ?_, F.r0, F.l0, ?_, F.dq, fun hfl => ?_, fun hfl => ?_, F.okq, fun m hm => ?_⟩
    · have := F.sum; simp [PS.sent]; omega
    · simp [PS.sent]; omega
    · have := hfu.2.1 hfl; have := F.fl hfl; simp [PS.sent]; omega
    · have := hfu.2.2 hfl; simp [PS.sent]; omega
    · simp [PS.sent] at hm
      rcases hm with hm | rfl
      · exact F.oks m hm
      · unfold checkE at hk
        split at hk
        · exact absurd hk (by decide)
        · split at hk
          · exact ⟨by simp; omega, by simp; omega, hx, ht.1, ht.2⟩
          · exact absurd hk (by decide)

set_option maxHeartbeats 1000000 in
set_option maxRecDepth 100000 in
theorem send_ok {w : World} {b : Nat} {qv sv : Value} {q : QT} {s : PS} (h : PortIs w b qv sv q s) {who t : Int} {oa : Option Addr} {c : Nat} {xs : List Int} (hs : SrcIs w 1 oa xs.length (u8s xs)) (hc0 : oa = none → c = 0) (hx : ∀ b ∈ xs, 0 ≤ b ∧ b ≤ 255) (ht : 0 ≤ t ∧ t < 18446744073709551616)
    (he : sendE q s who xs.length = 0) :
    Calls Try.prog 14 #[ptrV b, .int .i64 who, .int .u64 t, .slice oa xs.length c] w fun e w' => e = .returned (.int .i64 0) ∧ ∃ sv', PortIs w' b qv sv' q (s.sent (xs, t)) ∧
      Chg (fun i => i = b ∨ some i = sv.ownBlock) w w' ∧ (∀ i, some i = sv'.ownBlock → some i = sv.ownBlock ∨ w.heap.size ≤ i) := by
  obtain ⟨hb, f0, _, _, f3, _, _, _, _, _, _, f10⟩ := h.facts
  have K := Lib.hid (check_any h oa xs.length c)
  have F := Lib.hid (full_any h)
  have H := Lib.hid h
  obtain ⟨i0, hi, hz0, hz1, hz2⟩ := info76z
  have hbne : some b ≠ sv.ownBlock := fun e => by
    obtain ⟨cur, hc⟩ := h.rs.block e
    rw [h.st] at hc
    simp only [Option.some.injEq, Obj.cells.injEq] at hc
    exact absurd hc.2.1 (by decide)
  unfold sendE at he
  have h1 : who = q.writer := by
    by_cases h : who = q.writer
    · exact h
    · rw [if_pos h] at he; exact absurd he (by decide)
  rw [if_neg (by simpa using h1)] at he
  have h2 : checkE q xs.length = 0 := by
    by_cases h : checkE q xs.length = 0
    · exact h
    · rw [if_pos h] at he; exact absurd he h
  rw [if_neg (by simpa using h2)] at he
  have h3 : fullB q s = false := by
    cases h : fullB q s with
    | false => rfl
    | true => rw [if_pos h] at he; exact absurd he (by decide)
  clear he
  subst h1
  rw [h2] at K
  rw [h3] at F
  have hlen : xs.length ≤ 256 := by
    have := h.fine.may.s2
    unfold checkE at h2
    split at h2
    · exact absurd h2 (by decide)
    · omega
  have hacc : s.acc < 1152921504606846976 := by
    unfold fullB at h3
    simp at h3
    omega
  have hl := h.fine.lens
  obtain ⟨cs, hrow, hms⟩ := h.rs
  have HL := Lib.hid hlen
  have HA := Lib.hid hacc
  have HS := Lib.hid hs
  have HT := Lib.hid hms
  have HL2 := Lib.hid hl
  have HRow := Lib.hid (fun (wy : World) (hc : Chg (fun _ => False) w wy) => row_frame hrow hc fun _ _ => id)
  have HX := Lib.hid hx
  have HH23 := Lib.hid (And.intro h2 h3)
  clear h hlen hacc hs hl hrow hms hx h2 h3
  unfold ptrV at *
  go_enter Try.func14, Try.ntmps14
  go_wp2_with fail
  refine K.out.mono ?_
  rintro e w1 ⟨rfl, rfl⟩
  go_wp2_with fail
  refine F.out.mono ?_
  rintro e w1 ⟨rfl, hc1⟩
  have f0' := cell_frame hc1 (fun _ _ => id) f0
  have f10' := cell_frame hc1 (fun _ _ => id) f10
  have hfz := frozen_of_blk (hc1.blk' H.out.st id)
  have hb1 := World.block_lt_of_cell? _ _ f0'
  have HC1 := Lib.hid hc1
  have HS1 := Lib.hid (HS.out.frame hc1 fun _ _ => id)
  have HCl := Lib.hid (fun (wy : World) (hy : Chg (fun _ => False) w1 wy) => clone_any (HS1.out.frame hy fun _ _ => id) hc0 (by have := HL.out; omega))
  clear hc1 f0 f10
  go_wp2_with fail
  go_region_law (first | (go_simp; go_at_call 24; refine (HCl.out _ (Chg.refl _ _).drew).mono ?_; rintro e w2 ⟨dv, rfl, hnil, hrowd, hcd⟩; obtain ⟨od, cd, rfl, hd1, hd2, _⟩ := row_form hrowd; have f10b := cell_frame hcd (fun _ _ => id) f10'; have hlb2 := World.block_lt_of_cell? _ _ f10b; have HCd := Lib.hid hcd; have HNil := Lib.hid hnil; have HRD := Lib.hid hrowd; clear hcd hnil hrowd) | ((refine step_app rfl _ _ _ (by rfl) 0 76 i0 _ 2 32 Try.underlying62 hi hz0 hz1 hz2 (by rfl) (by decide) sv s.ss.length cs (by rfl) (HRow.out _ ((HC1.out.drew.trans HCd.out fun _ _ => id).alloc _)) _ 1 1 [_, .int .u64 t] (by rfl) (SrcIs.some (by rfl) (by simp [Value.oneCell']) (World.news_of_block (heap_alloc_new _ _))) (fun h => by cases h) (by have := HL2.out.2; unfold maxLen; omega) (by have := HL2.out.2; omega) (Nat.zero_le _) ?_; intro v2 w3 hown hgrow hlie; obtain ⟨ov, cv, rfl, hv1, hv2, _⟩ := row_form hown; have f10c := (hgrow.cell_far ⟨b, 10, none⟩ (by have h9 := World.block_lt_of_cell? _ _ f10b; exact Nat.lt_of_lt_of_le h9 (by simp)) hbne).trans (cell_frame ((Chg.refl (fun _ => False) _).alloc _) (fun _ _ => id) f10b); have hfz3 := (hgrow.frozen_far ⟨b, 10, none⟩ (by have h9 := World.block_lt_of_cell? _ _ f10b; exact Nat.lt_of_lt_of_le h9 (by simp)) hbne).trans (World.frozen?_of_block (blk_alloc_past _ _ _ (World.block_lt_of_cell? _ _ f10b)) |>.trans (frozen_keep HCd.out (hfz 10) (World.block_lt_of_cell? _ _ f10'))); have HO := Lib.hid hown; have HG := Lib.hid hgrow; have HLie := Lib.hid hlie; clear hown hgrow hlie)))
  all_goals
    have hca := (HC1.out.drew.trans HCd.out fun _ _ => id).alloc (.cells #[.slice od xs.length cd, .int .u64 t] 76 (0, 0))
    have g0 := (HG.out.cell_far ⟨b, 0, none⟩ (Nat.lt_of_lt_of_le hlb2 (by simp)) hbne).trans (cell_frame ((Chg.refl (fun _ => False) _).alloc _) (fun _ _ => id) (cell_frame HCd.out (fun _ _ => id) f0'))
    have z0 := (HG.out.frozen_far ⟨b, 0, none⟩ (Nat.lt_of_lt_of_le hlb2 (by simp)) hbne).trans ((World.frozen?_of_block (w := w2) (a := ⟨b, 0, none⟩) (blk_alloc_past _ _ _ hlb2)).trans (frozen_keep (a := ⟨b, 0, none⟩) HCd.out (hfz 0) (World.block_lt_of_cell? _ _ f0')))
    have E := Lib.hid (send_end H.out hca (HRow.out _ hca) HT.out ((BytesIs.of_row HRD.out).frame ((Chg.refl (fun _ => False) _).alloc _) fun _ _ _ h => h.elim) rfl HO.out HG.out HLie.out HX.out ht HH23.out.1 HH23.out.2)
    have ha0 := H.out.fine.sum
    have ha1 := H.out.fine.r0
    have ha2 := H.out.fine.l0
    have ha3 := HA.out
    have ha4 : 0 ≤ s.acc := by omega
    have hb3 := World.block_lt_of_cell? _ _ g0
    clear hca ha0 ha1 ha2
    go_wp2
    go_ret
    exact ⟨rfl, _, E.out⟩
end Go.Proofs.Ytpilfelcikelhaa
