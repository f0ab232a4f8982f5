/- QueueKeeps: what was accepted is received, queued, staged and lost, in order; when a port must be full: for every input. No condition. -/
import Derived.Test.YtpilfelcikelhaaQueR
namespace Go.Proofs.Ytpilfelcikelhaa
open Go.RowKit Go.Cl
set_option linter.unusedVariables false
set_option linter.unusedSimpArgs false
attribute [local go_sem] lt_add_one' blk_alloc_past blk_alloc_at blk_drew blk_setCell_ne
attribute [local go_sem ↓] Go.wp_at_zero Go.wp_at_succ

/-- Messages with rising numbers between two. -/
def Good (got sent : Int) (l : List Msg) : Prop := l.Pairwise (fun a b => a.2 < b.2) ∧ ∀ m ∈ l, got < m.2 ∧ m.2 < sent ∧ m.1 = numB m.2
/-- All numbers between two. -/
def Seq (got sent : Int) (l : List Msg) : Prop := (l.length : Int) = sent - (got + 1) ∧ ∀ (i : Nat) (m : Msg), l[i]? = some m → m.2 = got + 1 + i

theorem Good.snoc {got sent : Int} {l : List Msg} (h : Good got sent l) (hg : got < sent) : Good got (sent + 1) (l ++ [(numB sent, sent)]) := by
  refine ⟨List.pairwise_append.2 ⟨h.1, by simp, fun a ha b hb => ?_⟩, fun m hm => ?_⟩
  · simp at hb
    subst hb
    exact (h.2 a ha).2.1
  · simp at hm
    rcases hm with hm | rfl
    · have := h.2 m hm
      exact ⟨this.1, by omega, this.2.2⟩
    · exact ⟨hg, by simp; omega, rfl⟩

theorem Good.sub {got sent : Int} {l l' : List Msg} (h : Good got sent l) (hs : l'.Sublist l) : Good got sent l' := ⟨h.1.sublist hs, fun m hm => h.2 m (hs.subset hm)⟩

theorem Good.tail {got sent : Int} {m : Msg} {l : List Msg} (h : Good got sent (m :: l)) : Good m.2 sent l := by
  obtain ⟨h1, h2⟩ := h
  rw [List.pairwise_cons] at h1
  exact ⟨h1.2, fun x hx => ⟨h1.1 x hx, (h2 x (by simp [hx])).2⟩⟩

theorem Seq.snoc {got sent : Int} {l : List Msg} (h : Seq got sent l) : Seq got (sent + 1) (l ++ [(numB sent, sent)]) := by
  obtain ⟨h1, h2⟩ := h
  refine ⟨by simp; omega, fun i m hm => ?_⟩
  by_cases hi : i < l.length
  · rw [List.getElem?_append_left hi] at hm
    exact h2 i m hm
  · rw [List.getElem?_append_right (by omega)] at hm
    obtain ⟨hlt, hm2⟩ := List.getElem?_eq_some_iff.1 hm
    simp at hlt
    have : i - l.length = 0 := by omega
    simp [this] at hm2
    subst hm2
    simp
    omega

theorem Seq.tail {got sent : Int} {m : Msg} {l : List Msg} (h : Seq got sent (m :: l)) : m.2 = got + 1 ∧ Seq m.2 sent l := by
  obtain ⟨h1, h2⟩ := h
  have h0 := h2 0 m rfl
  simp at h0
  refine ⟨h0, by simp at h1; omega, fun i x hx => ?_⟩
  have := h2 (i + 1) x hx
  push_cast at this
  omega

theorem moved_blk {w w' : World} {b L : Nat} {qv sv qv' sv' : Value} {q : QT} {s s' : PS} {cs : Array Value} {t : TypeId} {fr : Nat × Nat} (h : PortIs w b qv sv q s) (m : Moved w w' b qv sv qv' sv' q s') (hb : blk w L = some (.cells cs t fr)) (h1 : t ≠ 72) (h2 : t ≠ 76) : blk w' L = some (.cells cs t fr) := by
  refine m.chg.blk' hb fun hi => ?_
  obtain ⟨cur, t', e, ht⟩ := h.core hi
  rw [hb] at e
  simp only [Option.some.injEq, Obj.cells.injEq] at e
  rcases ht with rfl | rfl
  · exact h1 e.2.1
  · exact h2 e.2.1

/-- What holds between two steps: port, declaration, numbers. -/
def KI (w wr : World) (b L : Nat) (q : QT) (got : Int) (i : Nat) (s : PS) : Prop :=
  ∃ qv sv, Own w.heap.size wr b qv sv q s ∧ Chg (fun _ => False) w wr ∧ blk wr L = some (.cells #[.int .i64 q.writer, .int .i64 q.reader, .int .i64 q.size, .int .i64 q.depth, .int .i64 q.quota, .bool q.flow] 23 (0, 0)) ∧
    Good got s.acc (s.qs ++ s.ss) ∧ (q.flow = true → Seq got s.acc (s.qs ++ s.ss)) ∧ s.acc ≤ i ∧ -1 ≤ got ∧ got < s.acc

theorem KI.step {w wr wr' : World} {b L : Nat} {q : QT} {got' : Int} {j : Nat} {s s' : PS} {qv sv qv' sv' : Value} (ho : Own w.heap.size wr b qv sv q s) (hc : Chg (fun _ => False) w wr) (hL : blk wr L = some (.cells #[.int .i64 q.writer, .int .i64 q.reader, .int .i64 q.size, .int .i64 q.depth, .int .i64 q.quota, .bool q.flow] 23 (0, 0)))
    (m : Moved wr wr' b qv sv qv' sv' q s') (h1 : Good got' s'.acc (s'.qs ++ s'.ss)) (h2 : q.flow = true → Seq got' s'.acc (s'.qs ++ s'.ss)) (h3 : s'.acc ≤ j) (h4 : -1 ≤ got') (h5 : got' < s'.acc) : KI w wr' b L q got' j s' := by
  refine ⟨_, _, ho.moved hc.size m, hc.trans m.chg fun i hi h => ?_, m.chg.blk' hL fun h => ?_, h1, h2, h3, h4, h5⟩
  · have := ho.fresh i h
    omega
  · obtain ⟨cur, t, e, ht⟩ := ho.port.core h
    rw [hL] at e
    simp only [Option.some.injEq, Obj.cells.injEq] at e
    rcases ht with rfl | rfl
    · exact absurd e.2.1 (by decide)
    · exact absurd e.2.1 (by decide)

theorem KI.still {w wr wr' : World} {b L : Nat} {q : QT} {got : Int} {i : Nat} {s : PS} (h : KI w wr b L q got i s) (hc : Chg (fun _ => False) wr wr') : KI w wr' b L q got i s := by
  obtain ⟨qv, sv, h1, h2, h3, h4⟩ := h
  exact ⟨qv, sv, h1.frame0 hc, h2.trans hc fun _ _ => id, hc.blk' h3 id, h4⟩

theorem joins_flow {q : QT} {s : PS} (h : Fine q s) (hf : q.flow = true) : s.ss.take (joins q s) = s.ss := by
  have h1 := (h.fl hf).1
  have : joins q s = s.ss.length := by unfold joins; omega
  rw [this, List.take_length]

theorem Good.turned {q : QT} {got : Int} {s : PS} (h : Good got s.acc (s.qs ++ s.ss)) : Good got (s.turned q).acc ((s.turned q).qs ++ (s.turned q).ss) := by
  refine h.sub ?_
  show (s.qs ++ s.ss.take (joins q s) ++ []).Sublist _
  rw [List.append_nil]
  exact List.Sublist.append (List.Sublist.refl _) (List.take_sublist _ _)
theorem Seq.turned {q : QT} {got : Int} {s : PS} (h : Seq got s.acc (s.qs ++ s.ss)) (hf : Fine q s) (hq : q.flow = true) : Seq got (s.turned q).acc ((s.turned q).qs ++ (s.turned q).ss) := by
  show Seq got s.acc (s.qs ++ s.ss.take (joins q s) ++ [])
  rw [joins_flow hf hq, List.append_nil]
  exact h

theorem Good.sent {got : Int} {s : PS} (h : Good got s.acc (s.qs ++ s.ss)) (hg : got < s.acc) : Good got (s.sent (numB s.acc, s.acc)).acc ((s.sent (numB s.acc, s.acc)).qs ++ (s.sent (numB s.acc, s.acc)).ss) := by
  show Good got (s.acc + 1) (s.qs ++ (s.ss ++ [(numB s.acc, s.acc)]))
  rw [← List.append_assoc]
  exact h.snoc hg
theorem Seq.sent {got : Int} {s : PS} (h : Seq got s.acc (s.qs ++ s.ss)) : Seq got (s.sent (numB s.acc, s.acc)).acc ((s.sent (numB s.acc, s.acc)).qs ++ (s.sent (numB s.acc, s.acc)).ss) := by
  show Seq got (s.acc + 1) (s.qs ++ (s.ss ++ [(numB s.acc, s.acc)]))
  rw [← List.append_assoc]
  exact h.snoc
theorem full_flow {q : QT} {s : PS} (h : Fine q s) (hf : q.flow = true) (ha : s.acc ≤ 400) : ((s.qs.length : Int) + s.ss.length == q.depth) = fullB q s := by
  have h1 := (h.fl hf).1
  unfold fullB
  rw [hf, show decide (1152921504606846976 ≤ s.acc) = false from decide_eq_false (by omega)]
  simp only [Bool.false_or, if_true]
  by_cases hd : q.depth ≤ (s.qs.length : Int) + s.ss.length
  · rw [decide_eq_true hd]; simp; omega
  · rw [decide_eq_false hd]; simp; omega
theorem full_way {q : QT} {s : PS} (h : Fine q s) (hf : q.flow = false) (ha : s.acc ≤ 400) : ((s.ss.length : Int) == q.quota) = fullB q s := by
  have h1 := h.nf hf
  unfold fullB
  rw [hf, show decide (1152921504606846976 ≤ s.acc) = false from decide_eq_false (by omega)]
  simp only [Bool.false_or, if_false, Bool.false_eq_true]
  by_cases hd : q.quota ≤ (s.ss.length : Int)
  · rw [decide_eq_true hd]; simp; omega
  · rw [decide_eq_false hd]; simp; omega

set_option maxHeartbeats 200000000 in
set_option maxRecDepth 100000 in
theorem keeps_walk (w : World) (a0 : Int) (w0 : (Lit.int .i64 a0).wf = true) (a1 : Int) (w1 : (Lit.int .i64 a1).wf = true) (a2 : Bool) {v3 : Value} (h3 : ∃ us, RawsAre w v3 us) :
    Calls Try.prog 5 #[.int .i64 a0, .int .i64 a1, .bool a2, v3] w fun e w' => e = .returned (.bool true) ∧ Below w.heap.size w w' := by
  obtain ⟨steps, oa, cp, rfl, hs1, hs2, hs3⟩ := h3
  have HS := Lib.hid hs3
  have K := Lib.hid known_ok
  have D := Lib.hid (fun (wy : World) => declared_ok a0 a1 a2 (i64_of w0) (i64_of w1) wy)
  have N := Lib.hid (fun (wy : World) => new_own (declQ_may a0 a1 a2) wy)
  clear hs3 w0 w1
  go_enter Try.func5, Try.ntmps5
  go_wp2_with fail
  refine (K.out w).mono ?_
  rintro e wa ⟨rfl, hca⟩
  have CA := Lib.hid hca
  clear hca
  go_wp2_with fail
  refine (D.out _).mono ?_
  rintro e wb ⟨rfl, hcb⟩
  have CB := Lib.hid (CA.out.trans hcb fun _ _ => id)
  clear hcb CA
  unfold QT.v
  go_wp2_with fail
  have hN := N.out
  unfold declQ at hN
  refine (hN _).mono ?_
  rintro e wc ⟨b, rfl, ho, hcc⟩
  obtain ⟨q, hq⟩ : ∃ q : QT, q = ⟨3, 5, 8, 1 + pickI a0 32, 1 + pickI a1 16, a2⟩ := ⟨_, rfl⟩
  obtain ⟨L, hL⟩ : ∃ L, L = wb.heap.size := ⟨_, rfl⟩
  have hbL : blk wc L = some (.cells #[.int .i64 q.writer, .int .i64 q.reader, .int .i64 q.size, .int .i64 q.depth, .int .i64 q.quota, .bool q.flow] 23 (0, 0)) := by
    rw [hq, hL]
    exact hcc.blk' (blk_alloc_at _ _ _ rfl) id
  have hI : KI w wc b L q (-1) 0 PS.zero := by
    refine ⟨_, _, (Own.lower (by rw [hq]; exact ho) (by have := CB.out.size; simp; omega) : Own w.heap.size wc b (.slice none 0 0) (.slice none 0 0) q PS.zero), (CB.out.alloc _).trans hcc fun _ _ => id, hbL, ⟨by simp [PS.zero], by simp [PS.zero]⟩, fun _ => ⟨by simp [PS.zero], by simp [PS.zero]⟩, by simp [PS.zero], by omega, by simp [PS.zero]⟩
  have QA := Lib.hid (show q.size = 8 ∧ q.writer = 3 ∧ q.reader = 5 ∧ q.flow = a2 by rw [hq]; exact ⟨rfl, rfl, rfl, rfl⟩)
  have HI := Lib.hid hI
  rw [← hL]
  clear hN ho hcc hbL hI hL hq CB D N K
  unfold ptrV
  unfold maxLen at hs2
  go_upto_block 0 with (fail)
  go_cut [13, 16] from 53 to 263 (fun s13 s16 wq => ∃ (i : Nat) (got : Int) (s : PS), s13 = .int .i64 s.acc ∧ s16 = .int .i64 s.rcv ∧ KI w wq b L q got i s ∧ s.acc ≤ 400)
  case first =>
   go_wp2
   go_loopg [13, 14, 15, 16, 17] 400 (fun g s13 s14 s15 s16 s17 wr => ∃ (i : Nat) (got : Int) (s : PS), i + g = 400 ∧ s17 = .int .i64 i ∧ s13 = .int .i64 s.acc ∧ s14 = .int .i64 s.ss.length ∧ s15 = .int .i64 got ∧ s16 = .int .i64 s.rcv ∧ KI w wr b L q got i s)
   case atStart => exact ⟨0, -1, PS.zero, by omega, rfl, rfl, rfl, rfl, rfl, HI.out⟩
   case round =>
     obtain ⟨i, got, s, hig, rfl, rfl, rfl, rfl, rfl, hI⟩ := hrel
     have IG := Lib.hid hig
     have HIr := Lib.hid hI
     clear hI
     by_cases q1 : i < steps.length
     · have q1' : (i : Int) < (steps.length : Int) := by omega
       by_cases q2 : (i : Int) < 400
       · clear hig
         obtain ⟨ga, oo, rfl, hc0, hc1, hx0, hx1⟩ := HS.out i _ (List.getElem?_eq_getElem q1)
         generalize steps[i] = x at *
         obtain ⟨kd, nn⟩ := x
         obtain ⟨qv, sv, ho, hch, hL, hg, hsq, hacc, hg0, hg1⟩ := HIr.out
         have d0 := cell_frame hch (fun _ _ => id) hc0
         have ST := Lib.hid (stat_any ho.port)
         have PK := Lib.hid (pick_any kd 6 hx0 (by omega) (by omega))
         have yb := pickI_bd kd 6 (by omega)
         generalize pickI kd 6 = y at *
         have HO := Lib.hid ho
         have HCH := Lib.hid hch
         have HL := Lib.hid hL
         have HG := Lib.hid hg
         have HSQ := Lib.hid hsq
         have HAC := Lib.hid (And.intro hacc (And.intro hg0 hg1))
         have HD0 := Lib.hid d0
         clear hc0 hc1 hx0 hx1 ho hch hL hg hsq hacc hg0 hg1 d0
         unfold ptrV at *
         unfold PS.statV at ST
         go_wp2_with fail
         refine ST.out.mono ?_
         rintro e wd ⟨rfl, hcd⟩
         have d0 := cell_frame (hcd.alloc (.cells #[.int .i64 s.acc, .int .i64 s.rcv, .int .i64 s.qs.length, .int .i64 s.ss.length, .int .i64 s.lost] 48 (0, 0))) (fun _ _ => id) HD0.out
         go_wp2_with fail
         refine (PK.out _).mono ?_
         rintro e we ⟨rfl, rfl⟩
         have F := HO.out.port.fine
         have hA0 : 0 ≤ s.acc ∧ s.acc ≤ 400 := by have := F.sum; have := F.r0; have := F.l0; have := HAC.out.1; omega
         have HA0 := Lib.hid hA0
         obtain ⟨hl1, hl2⟩ := F.lens
         have Bd := blk_alloc_at wd (.cells #[.int .i64 s.acc, .int .i64 s.rcv, .int .i64 s.qs.length, .int .i64 s.ss.length, .int .i64 s.lost] 48 (0, 0)) _ rfl
         have HCd := Lib.hid (hcd.alloc (.cells #[.int .i64 s.acc, .int .i64 s.rcv, .int .i64 s.qs.length, .int .i64 s.ss.length, .int .i64 s.lost] 48 (0, 0)))
         obtain ⟨wy, hwy⟩ : ∃ wy, wy = wd.alloc (.cells #[.int .i64 s.acc, .int .i64 s.rcv, .int .i64 s.qs.length, .int .i64 s.ss.length, .int .i64 s.lost] 48 (0, 0)) := ⟨_, rfl⟩
         obtain ⟨B, hB⟩ : ∃ B, B = wd.heap.size := ⟨_, rfl⟩
         rw [← hwy] at Bd HCd ⊢
         rw [← hB] at Bd ⊢
         have HBd := Lib.hid Bd
         have PO := Lib.hid (HO.out.frame0 HCd.out)
         have CH := Lib.hid (HCH.out.trans HCd.out fun _ _ => id)
         have LL := Lib.hid (HCd.out.blk' HL.out id)
         have ac0 := hA0.1
         have ac1 := hA0.2
         clear hwy hB Bd F hcd d0 HD0 hA0
         go_upto_block 2 with (fail)
         go_cut [13, 14, 15, 16] from 53 to 217 (fun s13 s14 s15 s16 wq => ∃ (got' : Int) (s' : PS), s13 = .int .i64 s'.acc ∧ s14 = .int .i64 s'.ss.length ∧ s15 = .int .i64 got' ∧ s16 = .int .i64 s'.rcv ∧ KI w wq b L q got' (i + 1) s')
         case first =>
           refine wp_block ?_
           refine wp_seq_k ?_
           intro K1 hK1
           go_cut [70, 73] from 53 to 217 (fun s70 s73 wq => s70 = .int .i64 y ∧ s73 = .bool (decide (y ≤ 2)) ∧ wy = wq)
           case first =>
             by_cases e0 : y = 0
             · as_aux_lemma =>
               have f0 : (y == 0) = true := by simp [e0]
               have D := Lib.hid (decide_eq_true (show y ≤ 2 by omega))
               clear e0
               go_wp2
               go_meet
               exact ⟨rfl, by rw [D.out], rfl⟩
             · have f0 : (y == 0) = false := beq_eq_false_iff_ne.2 e0
               by_cases e1 : y = 1
               · as_aux_lemma =>
                 have f1 : (y == 1) = true := by simp [e1]
                 have D := Lib.hid (decide_eq_true (show y ≤ 2 by omega))
                 clear e1
                 go_wp2
                 go_meet
                 exact ⟨rfl, by rw [D.out], rfl⟩
               · have f1 : (y == 1) = false := beq_eq_false_iff_ne.2 e1
                 by_cases e2 : y = 2
                 · as_aux_lemma =>
                   have f2 : (y == 2) = true := by simp [e2]
                   have D := Lib.hid (decide_eq_true (show y ≤ 2 by omega))
                   clear e2
                   go_wp2
                   go_meet
                   exact ⟨rfl, by rw [D.out], rfl⟩
                 · have f2 : (y == 2) = false := beq_eq_false_iff_ne.2 e2
                   as_aux_lemma =>
                   have D := Lib.hid (decide_eq_false (show ¬ y ≤ 2 by omega))
                   clear e0
                   clear e1
                   clear e2
                   go_wp2
                   go_meet
                   exact ⟨rfl, by rw [D.out], rfl⟩
           case rest =>
             obtain ⟨rfl, rfl, rfl⟩ := hcut
             by_cases hy2 : y ≤ 2
             · rw [decide_eq_true hy2]
               have hk : checkE q (numB s.acc).length = 0 := by
                 unfold checkE
                 rw [QA.out.1]
                 show (if (8 : Int) < ((4 : Nat) : Int) then 172 else if ((4 : Nat) : Int) % 4 = 0 then (0 : Int) else 170) = 0
                 decide
               have KK := Lib.hid hk
               have NU := Lib.hid (fun wy => number_ok s.acc (by have := HA0.out; unfold I64; omega) wy)
               clear hk yb
               cases hfl : a2 with
               | true =>
                 have FL := Lib.hid (QA.out.2.2.2.trans hfl)
                 subst hfl
                 cases hfb : fullB q s with
                 | true =>
                   as_aux_lemma =>
                   have FB := Lib.hid hfb
                   clear hfb
                   go_wp2_with fail
                   refine (NU.out _).mono ?_
                   rintro e w2 ⟨rfl, hrow, hcn⟩
                   obtain ⟨oa', c', hv, hsrc, _⟩ := src_of_row hrow (u8s_one _)
                   simp only [Value.slice.injEq, true_and] at hv
                   obtain ⟨rfl, rfl⟩ := hv
                   have T2 := Lib.hid (PO.out.frame0 hcn)
                   have CH2 := Lib.hid (CH.out.trans hcn fun _ _ => id)
                   have LL2 := Lib.hid (hcn.blk' LL.out id)
                   have BB2 := Lib.hid (hcn.blk' HBd.out id)
                   have hA := send_any (t := s.acc) T2.out.port (xs := numB s.acc) (c := 4) hsrc (fun h => by cases h) (numB_byte s.acc) (by have := HA0.out; omega) KK.out
                   rw [QA.out.2.1, FB.out] at hA
                   simp only [if_true, if_false, Bool.false_eq_true] at hA
                   have HA := Lib.hid hA
                   clear hA hrow hsrc hcn
                   unfold ptrV at *
                   go_wp2_with fail
                   refine HA.out.mono ?_
                   rintro e w3 ⟨rfl, sv', hM⟩
                   have hl3 := moved_blk T2.out.port hM LL2.out (by decide) (by decide)
                   have hb3 := moved_blk T2.out.port hM BB2.out (by decide) (by decide)
                   have x3 := cell_of_blk hl3 3
                   have x4 := cell_of_blk hl3 4
                   have x6 := cell_of_blk hb3 2
                   have x7 := cell_of_blk hb3 3
                   have E := Lib.hid (KI.step (j := i + 1) T2.out CH2.out LL2.out hM (HG.out) (HSQ.out) (by have := HAC.out.1; omega) HAC.out.2.1 (by have := HAC.out.2.2; omega))
                   have e1 : ((s.qs.length : Int) + s.ss.length == q.depth) = true := (full_flow PO.out.port.fine FL.out HA0.out.2).trans FB.out
                   clear hM hl3 hb3
                   go_wp2
                   go_meet
                   case rel => exact ⟨got, s, rfl, rfl, rfl, rfl, E.out⟩
                 | false =>
                   as_aux_lemma =>
                   have FB := Lib.hid hfb
                   clear hfb
                   go_wp2_with fail
                   refine (NU.out _).mono ?_
                   rintro e w2 ⟨rfl, hrow, hcn⟩
                   obtain ⟨oa', c', hv, hsrc, _⟩ := src_of_row hrow (u8s_one _)
                   simp only [Value.slice.injEq, true_and] at hv
                   obtain ⟨rfl, rfl⟩ := hv
                   have T2 := Lib.hid (PO.out.frame0 hcn)
                   have CH2 := Lib.hid (CH.out.trans hcn fun _ _ => id)
                   have LL2 := Lib.hid (hcn.blk' LL.out id)
                   have BB2 := Lib.hid (hcn.blk' HBd.out id)
                   have hA := send_any (t := s.acc) T2.out.port (xs := numB s.acc) (c := 4) hsrc (fun h => by cases h) (numB_byte s.acc) (by have := HA0.out; omega) KK.out
                   rw [QA.out.2.1, FB.out] at hA
                   simp only [if_true, if_false, Bool.false_eq_true] at hA
                   have HA := Lib.hid hA
                   clear hA hrow hsrc hcn
                   unfold ptrV at *
                   go_wp2_with fail
                   refine HA.out.mono ?_
                   rintro e w3 ⟨rfl, sv', hM⟩
                   have hl3 := moved_blk T2.out.port hM LL2.out (by decide) (by decide)
                   have hb3 := moved_blk T2.out.port hM BB2.out (by decide) (by decide)
                   have x3 := cell_of_blk hl3 3
                   have x4 := cell_of_blk hl3 4
                   have x6 := cell_of_blk hb3 2
                   have x7 := cell_of_blk hb3 3
                   have E := Lib.hid (KI.step (j := i + 1) T2.out CH2.out LL2.out hM (HG.out.sent HAC.out.2.2) (fun hf => (HSQ.out hf).sent) (by show s.acc + 1 ≤ _; have := HAC.out.1; omega) HAC.out.2.1 (by have := HAC.out.2.2; show got < s.acc + 1; omega))
                   have e1 : ((s.qs.length : Int) + s.ss.length == q.depth) = false := (full_flow PO.out.port.fine FL.out HA0.out.2).trans FB.out
                   clear hM hl3 hb3
                   go_wp2
                   go_meet
                   case rel => exact ⟨got, s.sent (numB s.acc, s.acc), rfl, by simp [PS.sent], rfl, rfl, E.out⟩
               | false =>
                 have FL := Lib.hid (QA.out.2.2.2.trans hfl)
                 subst hfl
                 cases hfb : fullB q s with
                 | true =>
                   as_aux_lemma =>
                   have FB := Lib.hid hfb
                   clear hfb
                   go_wp2_with fail
                   refine (NU.out _).mono ?_
                   rintro e w2 ⟨rfl, hrow, hcn⟩
                   obtain ⟨oa', c', hv, hsrc, _⟩ := src_of_row hrow (u8s_one _)
                   simp only [Value.slice.injEq, true_and] at hv
                   obtain ⟨rfl, rfl⟩ := hv
                   have T2 := Lib.hid (PO.out.frame0 hcn)
                   have CH2 := Lib.hid (CH.out.trans hcn fun _ _ => id)
                   have LL2 := Lib.hid (hcn.blk' LL.out id)
                   have BB2 := Lib.hid (hcn.blk' HBd.out id)
                   have hA := send_any (t := s.acc) T2.out.port (xs := numB s.acc) (c := 4) hsrc (fun h => by cases h) (numB_byte s.acc) (by have := HA0.out; omega) KK.out
                   rw [QA.out.2.1, FB.out] at hA
                   simp only [if_true, if_false, Bool.false_eq_true] at hA
                   have HA := Lib.hid hA
                   clear hA hrow hsrc hcn
                   unfold ptrV at *
                   go_wp2_with fail
                   refine HA.out.mono ?_
                   rintro e w3 ⟨rfl, sv', hM⟩
                   have hl3 := moved_blk T2.out.port hM LL2.out (by decide) (by decide)
                   have hb3 := moved_blk T2.out.port hM BB2.out (by decide) (by decide)
                   have x3 := cell_of_blk hl3 3
                   have x4 := cell_of_blk hl3 4
                   have x6 := cell_of_blk hb3 2
                   have x7 := cell_of_blk hb3 3
                   have E := Lib.hid (KI.step (j := i + 1) T2.out CH2.out LL2.out hM (HG.out) (HSQ.out) (by have := HAC.out.1; omega) HAC.out.2.1 (by have := HAC.out.2.2; omega))
                   have e1 : ((s.ss.length : Int) == q.quota) = true := (full_way PO.out.port.fine FL.out HA0.out.2).trans FB.out
                   clear hM hl3 hb3
                   go_wp2
                   go_meet
                   case rel => exact ⟨got, s, rfl, rfl, rfl, rfl, E.out⟩
                 | false =>
                   as_aux_lemma =>
                   have FB := Lib.hid hfb
                   clear hfb
                   go_wp2_with fail
                   refine (NU.out _).mono ?_
                   rintro e w2 ⟨rfl, hrow, hcn⟩
                   obtain ⟨oa', c', hv, hsrc, _⟩ := src_of_row hrow (u8s_one _)
                   simp only [Value.slice.injEq, true_and] at hv
                   obtain ⟨rfl, rfl⟩ := hv
                   have T2 := Lib.hid (PO.out.frame0 hcn)
                   have CH2 := Lib.hid (CH.out.trans hcn fun _ _ => id)
                   have LL2 := Lib.hid (hcn.blk' LL.out id)
                   have BB2 := Lib.hid (hcn.blk' HBd.out id)
                   have hA := send_any (t := s.acc) T2.out.port (xs := numB s.acc) (c := 4) hsrc (fun h => by cases h) (numB_byte s.acc) (by have := HA0.out; omega) KK.out
                   rw [QA.out.2.1, FB.out] at hA
                   simp only [if_true, if_false, Bool.false_eq_true] at hA
                   have HA := Lib.hid hA
                   clear hA hrow hsrc hcn
                   unfold ptrV at *
                   go_wp2_with fail
                   refine HA.out.mono ?_
                   rintro e w3 ⟨rfl, sv', hM⟩
                   have hl3 := moved_blk T2.out.port hM LL2.out (by decide) (by decide)
                   have hb3 := moved_blk T2.out.port hM BB2.out (by decide) (by decide)
                   have x3 := cell_of_blk hl3 3
                   have x4 := cell_of_blk hl3 4
                   have x6 := cell_of_blk hb3 2
                   have x7 := cell_of_blk hb3 3
                   have E := Lib.hid (KI.step (j := i + 1) T2.out CH2.out LL2.out hM (HG.out.sent HAC.out.2.2) (fun hf => (HSQ.out hf).sent) (by show s.acc + 1 ≤ _; have := HAC.out.1; omega) HAC.out.2.1 (by have := HAC.out.2.2; show got < s.acc + 1; omega))
                   have e1 : ((s.ss.length : Int) == q.quota) = false := (full_way PO.out.port.fine FL.out HA0.out.2).trans FB.out
                   clear hM hl3 hb3
                   go_wp2
                   go_meet
                   case rel => exact ⟨got, s.sent (numB s.acc, s.acc), rfl, by simp [PS.sent], rfl, rfl, E.out⟩
             · rw [decide_eq_false hy2]
               go_upto_if 73 with (fail)
               refine wp_cond_false rfl ?_
               refine wp_seq_k ?_
               intro K2 hK2
               go_cut [114] from 53 to 217 (fun s114 wq => s114 = .bool (decide (y ≤ 4)) ∧ wy = wq)
               case first =>
                 by_cases e3 : y = 3
                 · as_aux_lemma =>
                   have f3 : (y == 3) = true := by simp [e3]
                   have D := Lib.hid (decide_eq_true (show y ≤ 4 by omega))
                   clear e3
                   go_wp2
                   go_meet
                   exact ⟨by rw [D.out], rfl⟩
                 · have f3 : (y == 3) = false := beq_eq_false_iff_ne.2 e3
                   by_cases e4 : y = 4
                   · as_aux_lemma =>
                     have f4 : (y == 4) = true := by simp [e4]
                     have D := Lib.hid (decide_eq_true (show y ≤ 4 by omega))
                     clear e4
                     go_wp2
                     go_meet
                     exact ⟨by rw [D.out], rfl⟩
                   · have f4 : (y == 4) = false := beq_eq_false_iff_ne.2 e4
                     as_aux_lemma =>
                     have D := Lib.hid (decide_eq_false (show ¬ y ≤ 4 by omega))
                     clear e3
                     clear e4
                     go_wp2
                     go_meet
                     exact ⟨by rw [D.out], rfl⟩
               case rest =>
                 obtain ⟨rfl, rfl⟩ := hcut
                 by_cases hy4 : y ≤ 4
                 · rw [decide_eq_true hy4]
                   clear yb
                   cases hqs : s.qs with
                   | nil =>
                     as_aux_lemma =>
                     have hR := recv_none PO.out.port hqs
                     rw [QA.out.2.2.1] at hR
                     have HR := Lib.hid hR
                     have hb3 := HBd.out
                     rw [hqs] at hb3
                     have x6 := cell_of_blk hb3 2
                     have E := Lib.hid (KI.step (j := i + 1) PO.out CH.out LL.out (Moved.refl PO.out.port (Chg.refl _ _)) HG.out HSQ.out (by have := HAC.out.1; omega) HAC.out.2.1 HAC.out.2.2)
                     clear hR hb3
                     unfold ptrV at *
                     go_wp2_with fail
                     refine HR.out.mono ?_
                     rintro e w3 ⟨rfl, rfl⟩
                     go_wp2
                     go_meet
                     case rel => exact ⟨got, s, rfl, rfl, rfl, rfl, E.out⟩
                   | cons m r =>
                     as_aux_lemma =>
                     have hR := recv_ok PO.out.port hqs
                     rw [QA.out.2.2.1] at hR
                     have HR := Lib.hid hR
                     have hg := HG.out
                     rw [hqs] at hg
                     have hm := hg.2 m (by simp)
                     have hE1 := hg.tail
                     have hE2 := fun hf => (show Seq got s.acc (m :: (r ++ s.ss)) by have := HSQ.out hf; rw [hqs] at this; exact this).tail
                     have HM := Lib.hid hm
                     have HE := Lib.hid (And.intro hE1 hE2)
                     have HQS := Lib.hid hqs
                     have hm1 : m.1.length = 4 := by rw [hm.2.2]; rfl
                     clear hR hg hE1 hE2 hm
                     unfold ptrV at *
                     go_wp2_with fail
                     refine HR.out.mono ?_
                     rintro e w3 ⟨v, qv', rfl, hP, hv, hc, hf⟩
                     obtain ⟨ov, cv, rfl, hsv, hv1, hv2, hv3⟩ := src_of_row hv (u8s_one _)
                     clear hv3
                     have hM : Moved wy w3 b qv sv qv' sv q (s.took r) := ⟨hP, hc.mono fun i _ h => h.elim .inl fun h => .inr (.inl h), fun i hi => by
                       rcases hi with rfl | hi | hi
                       · exact .inl (.inl rfl)
                       · exact (hf i hi).elim (fun h => .inl (.inr (.inl h))) .inr
                       · exact .inl (.inr (.inr hi))⟩
                     have hb3 := moved_blk PO.out.port hM HBd.out (by decide) (by decide)
                     rw [HQS.out] at hb3
                     have x6 := cell_of_blk hb3 2
                     have E := Lib.hid (KI.step (j := i + 1) (got' := m.2) PO.out CH.out LL.out hM HE.out.1 (fun hf => (HE.out.2 hf).2) (by show s.acc ≤ _; have := HAC.out.1; omega) (by have := HM.out.1; have := HAC.out.2.1; omega) HM.out.2.1)
                     have HSV := Lib.hid hsv
                     have g1 : got < m.2 := HM.out.1
                     have g2 : m.2 < s.acc := HM.out.2.1
                     have g3 : -1 ≤ got := HAC.out.2.1
                     have g4 : a2 = true → m.2 = got + 1 := fun h => (HE.out.2 (QA.out.2.2.2.trans h)).1
                     have G4 := Lib.hid g4
                     clear hP hv hc hf hM hb3 hsv g4
                     go_upto_region 36 with (fail)
                     go_cut [165] from 53 to 217 (fun s165 wq => s165 = .bool false ∧ Chg (fun _ => False) w3 wq)
                     case first =>
                       have hsv4 : SrcIs w3 1 ov 4 (u8s (numB m.2)) := by
                         have h := HSV.out
                         rw [HM.out.2.2] at h
                         exact h
                       have hi : I64 m.2 := by have := HA0.out; unfold I64; omega
                       cases hfl : a2 with
                       | true =>
                         as_aux_lemma =>
                         have G5 := Lib.hid (G4.out hfl)
                         subst hfl
                         refine seen_true rfl hsv4 hi g1 g2 G5.out ?_
                         intros
                         rename_i wq hcq
                         go_wp2
                         go_meet
                         case rel => exact ⟨rfl, hcq⟩
                       | false =>
                         as_aux_lemma =>
                         subst hfl
                         refine seen_false rfl hsv4 hi g1 g2 ?_
                         intros
                         rename_i wq hcq
                         go_wp2
                         go_meet
                         case rel => exact ⟨rfl, hcq⟩
                     case rest =>
                       obtain ⟨rfl, hcq⟩ := hcut
                       have E2 := Lib.hid (E.out.still hcq)
                       have hr1 := PO.out.port.fine.sum
                       have hr2 := PO.out.port.fine.r0
                       have hr3 := PO.out.port.fine.l0
                       have hr4 : s.rcv + 1 ≤ 1000 := by have := HA0.out; omega
                       clear hcq hr1 hr3
                       go_wp2
                       go_meet
                       case rel => exact ⟨m.2, s.took r, rfl, rfl, rfl, rfl, E2.out⟩
                 · rw [decide_eq_false hy4]
                   have hT := turn_any PO.out.port
                   rw [QA.out.2.1] at hT
                   have HT := Lib.hid hT
                   clear hT yb
                   unfold ptrV at *
                   go_wp2_with fail
                   refine HT.out.mono ?_
                   rintro e w2 ⟨n, qv', rfl, hM⟩
                   have E := Lib.hid (KI.step (got' := got) (j := i + 1) PO.out CH.out LL.out hM (HG.out.turned) (fun hf => (HSQ.out hf).turned PO.out.port.fine hf) (by show s.acc ≤ _; have := HAC.out.1; omega) HAC.out.2.1 HAC.out.2.2)
                   clear hM
                   go_wp2
                   go_meet
                   case rel => exact ⟨got, s.turned q, rfl, rfl, rfl, rfl, E.out⟩
         case rest =>
           obtain ⟨got', s', rfl, rfl, rfl, rfl, hI⟩ := hcut
           obtain ⟨qv2, sv2, ho2, hch2, hL2, hg2, hsq2, hacc2, hgb2⟩ := hI
           have ST2 := Lib.hid (stat_any ho2.port)
           have F2 := ho2.port.fine
           obtain ⟨hl1', hl2'⟩ := F2.lens
           have HI2 := Lib.hid (show KI w wc b L q got' (i + 1) s' from ⟨qv2, sv2, ho2, hch2, hL2, hg2, hsq2, hacc2, hgb2⟩)
           have hsum := F2.sum
           have hr0 := F2.r0
           have hlo := F2.l0
           have hdq := F2.dq
           have hfl2 : a2 = true → (s'.lost != 0) = false := fun h => by rw [(F2.fl (QA.out.2.2.2.trans h)).2]; rfl
           have HFL := Lib.hid hfl2
           have HL2 := Lib.hid hL2
           unfold PS.statV at ST2
           clear ho2 hch2 hL2 hg2 hsq2 hgb2 F2 hfl2
           unfold ptrV at *
           go_wp2_with fail
           refine ST2.out.mono ?_
           rintro e ws ⟨rfl, hcs⟩
           have hls := hcs.blk' HL2.out id
           have v3 := cell_of_blk hls 3
           have hlt := blk_lt hls
           have E3 := Lib.hid (HI2.out.still (hcs.alloc (.cells #[.int .i64 s'.acc, .int .i64 s'.rcv, .int .i64 s'.qs.length, .int .i64 s'.ss.length, .int .i64 s'.lost] 48 (0, 0))))
           have hS : (s'.acc != s'.rcv + (s'.qs.length : Int) + (s'.ss.length : Int) + s'.lost) = false := by rw [hsum]; simp
           have hD : ¬ (q.depth < (s'.qs.length : Int)) := by omega
           have hb1 : s'.rcv ≤ 401 := by omega
           have hb2 : s'.lost ≤ 401 := by omega
           clear hls hcs hsum hdq
           cases hfl : a2 with
           | true =>
             as_aux_lemma =>
             have h0 := HFL.out hfl
             subst hfl
             go_wp2
             go_roundg (400 - (i + 1))
             case measure => have := IG.out; omega
             case rel => exact ⟨i + 1, got', s', by have := IG.out; omega, by go_num, rfl, rfl, rfl, rfl, E3.out⟩
           | false =>
             as_aux_lemma =>
             subst hfl
             go_wp2
             go_roundg (400 - (i + 1))
             case measure => have := IG.out; omega
             case rel => exact ⟨i + 1, got', s', by have := IG.out; omega, by go_num, rfl, rfl, rfl, rfl, E3.out⟩
       · clear hig
         go_wp2
         go_meet
         case rel =>
           have h := HIr.out
           obtain ⟨_, _, _, _, _, _, _, h1, _⟩ := h
           exact ⟨i, got, s, rfl, rfl, HIr.out, by have := IG.out; omega⟩
     · have q1' : ¬ ((i : Int) < (steps.length : Int)) := by omega
       have hi4 : i ≤ 400 := by omega
       clear hig
       go_wp2
       go_meet
       case rel =>
         have h := HIr.out
         obtain ⟨_, _, _, _, _, _, _, h1, _⟩ := h
         exact ⟨i, got, s, rfl, rfl, HIr.out, by omega⟩
  case rest =>
    obtain ⟨i, got, s, rfl, rfl, hI, h4⟩ := hcut
    obtain ⟨qv, sv, ho, hch, _⟩ := hI
    have HO := Lib.hid ho
    have HCH := Lib.hid hch
    have hT := turn_any ho.port
    rw [QA.out.2.1] at hT
    have HT := Lib.hid hT
    have F := ho.port.fine
    have ha : 0 ≤ s.rcv ∧ s.rcv ≤ 400 := by have := F.sum; have := F.r0; have := F.l0; omega
    have HA := Lib.hid ha
    clear hT ho hch F ha HI
    unfold ptrV at *
    go_wp2_with fail
    refine HT.out.mono ?_
    rintro e w2 ⟨n, qv', rfl, hM⟩
    have O2 := Lib.hid (HO.out.moved HCH.out.size hM)
    have C2 := Lib.hid (HCH.out.trans (S := fun _ => False) hM.chg fun x hx h => by have := HO.out.fresh x h; omega)
    clear hM
    go_wp2
    go_loopg [16, 27] 33 (fun g s16 s27 wr => ∃ (k : Nat) (qv1 sv1 : Value) (s1 : PS), k + g = 33 ∧ s27 = .int .i64 k ∧ s16 = .int .i64 s1.rcv ∧ Own w.heap.size wr b qv1 sv1 q s1 ∧ Chg (fun _ => False) w wr ∧ s1.acc = s.acc ∧ s1.ss = [] ∧ s1.qs.length ≤ 33 - k ∧ 0 ≤ s1.rcv ∧ s1.rcv ≤ 400)
    case atStart =>
      have h1 := O2.out.port.fine.lens.1
      exact ⟨0, _, _, s.turned q, by omega, rfl, rfl, O2.out, C2.out, rfl, rfl, by omega, HA.out.1, HA.out.2⟩
    case round =>
      obtain ⟨k, qv1, sv1, s1, hkg, rfl, rfl, ho, hch, ha, hss, hql, hr0, hr1⟩ := hrel
      have KG := Lib.hid hkg
      have HO1 := Lib.hid ho
      have HC1 := Lib.hid hch
      have HX := Lib.hid (And.intro ha (And.intro hss hql))
      cases gk with
      | zero =>
        have hk : k = 33 := by omega
        subst hk
        have hq0 : s1.qs = [] := List.length_eq_zero_iff.1 (by omega)
        have ST := Lib.hid (stat_any ho.port)
        unfold PS.statV at ST
        rw [hq0, hss, ha] at ST
        have hsum := ho.port.fine.sum
        rw [hq0, hss, ha] at hsum
        have hlo : s1.lost = s.acc - s1.rcv := by simp at hsum; omega
        have hlb := ho.port.fine.l0
        rw [hlo] at ST
        have hac : s.acc ≤ 400 := h4
        have hac0 : s1.rcv ≤ s.acc := by omega
        clear ho hch ha hss hql hkg hsum hq0 hlo hlb h4
        go_wp2_with fail
        refine ST.out.mono ?_
        rintro e w3 ⟨rfl, hc3⟩
        have HC3 := Lib.hid hc3
        clear hc3
        go_wp2
        go_ret
        exact ⟨by simp, (HC1.out.trans HC3.out fun _ _ => id).alloc _ |>.below (Nat.le_refl _) (by simp)⟩
      | succ g =>
        cases hqs : s1.qs with
        | nil =>
          as_aux_lemma =>
          have hR := recv_none ho.port hqs
          rw [QA.out.2.2.1] at hR
          have HR := Lib.hid hR
          have HQS := Lib.hid hqs
          clear hR ho hch ha hss hql hqs
          have hk3 : (k : Int) < 33 := by omega
          clear hkg
          unfold ptrV at *
          go_wp2_with fail
          refine HR.out.mono ?_
          rintro e w3 ⟨rfl, rfl⟩
          go_wp2
          go_roundg g
          case measure => omega
          case rel => exact ⟨k + 1, qv1, sv1, s1, by have := KG.out; omega, by go_num, rfl, HO1.out, HC1.out, HX.out.1, HX.out.2.1, by rw [HQS.out]; simp, hr0, hr1⟩
        | cons m r =>
          as_aux_lemma =>
          have hR := recv_ok ho.port hqs
          rw [QA.out.2.2.1] at hR
          have HR := Lib.hid hR
          have HQS := Lib.hid hqs
          clear hR ho hch ha hss hql hqs
          have hk3 : (k : Int) < 33 := by omega
          clear hkg
          unfold ptrV at *
          go_wp2_with fail
          refine HR.out.mono ?_
          rintro e w3 ⟨v, qv', rfl, hP, hv, hc, hf⟩
          obtain ⟨ov, cv, rfl, hz1, hz2, hz3, hz4⟩ := row_form hv
          clear hz3 hz4
          have HPP := Lib.hid hP
          have HCC := Lib.hid hc
          have HFF := Lib.hid hf
          clear hP hv hc hf
          go_wp2
          go_roundg g
          case measure => omega
          case rel =>
            have hM : Moved wr w3 b qv1 sv1 qv' sv1 q (s1.took r) := ⟨HPP.out, HCC.out.mono fun i _ h => h.elim .inl fun h => .inr (.inl h), fun i hi => by
              rcases hi with rfl | hi | hi
              · exact .inl (.inl rfl)
              · exact (HFF.out i hi).elim (fun h => .inl (.inr (.inl h))) .inr
              · exact .inl (.inr (.inr hi))⟩
            have h5 := HX.out.2.2
            rw [HQS.out] at h5
            simp at h5
            have h6 := HPP.out.fine.sum
            have h7 := HPP.out.fine.l0
            have h8 : (s1.took r).acc = s.acc := HX.out.1
            rw [h8] at h6
            have h9 : (s1.took r).rcv = s1.rcv + 1 := rfl
            exact ⟨k + 1, _, _, s1.took r, by have := KG.out; omega, by go_num, rfl, HO1.out.moved HC1.out.size hM, HC1.out.trans hM.chg fun x hx h => by have := HO1.out.fresh x h; omega, HX.out.1, HX.out.2.1, by show r.length ≤ _; omega, by show 0 ≤ s1.rcv + 1; omega, by omega⟩
end Go.Proofs.Ytpilfelcikelhaa
