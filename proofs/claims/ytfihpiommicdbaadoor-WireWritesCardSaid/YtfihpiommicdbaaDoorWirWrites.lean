/- WireWrites: a writer of any limit, scripts of all its calls. No condition but the table's place. -/
import Derived.Test.YtfihpiommicdbaaDoorWirWH
import Derived.Test.YtfihpiommicdbaaDoorWirBJ
import Derived.Test.YtfihpiommicdbaaDoorWirO
namespace Go.Proofs.YtfihpiommicdbaaDoor
open Go.RowKit Go.Cl
set_option linter.unusedVariables false
set_option linter.unusedSimpArgs false
attribute [local go_sem] lt_add_one' blk_alloc_past blk_alloc_at blk_drew blk_setCell_ne

theorem Maker.still {base B X b b' : Nat} {w w1 : World} {bs : BS} {s : WS} {pl : List Int} {sz dn : Int} {R : List Thing} (h : Maker base w B bs X b b' s pl sz dn R) (hc : Chg (fun _ => False) w w1) : Maker base w1 B bs X b b' s pl sz dn R := by
  obtain ⟨pv, h⟩ := h
  exact ⟨pv, h.still hc⟩
theorem Maker.mem {base B X b b' : Nat} {w : World} {bs : BS} {s : WS} {pl : List Int} {sz dn : Int} {R : List Thing} (h : Maker base w B bs X b b' s pl sz dn R) {t : Thing} (ht : t ∈ R) : t.holds w := by
  obtain ⟨pv, h⟩ := h
  exact h.mem (by simp [ht])
theorem Maker.sub {base B X b b' : Nat} {w : World} {bs : BS} {s : WS} {pl : List Int} {sz dn : Int} {R R' : List Thing} (h : Maker base w B bs X b b' s pl sz dn R) (hp : R'.Sublist R) : Maker base w B bs X b b' s pl sz dn R' := by
  obtain ⟨pv, h⟩ := h
  exact ⟨pv, h.sub ((hp.cons_cons _).cons_cons _)⟩
theorem Maker.add {base B X b b' : Nat} {w w1 : World} {bs : BS} {s : WS} {pl : List Int} {sz dn : Int} {R : List Thing} {u : Thing} (h : Maker base w B bs X b b' s pl sz dn R) (hb : base ≤ w.heap.size) (hc : Chg (fun _ => False) w w1) (hu : u.holds w1) (hf : ∀ i, u.foot i → w.heap.size ≤ i) : Maker base w1 B bs X b b' s pl sz dn (u :: R) := by
  obtain ⟨pv, h⟩ := h
  exact ⟨pv, (h.add hb hc hu hf).perm (List.perm_middle (l₁ := [_, _])).symm⟩
/-- What looks leaves. -/
theorem Maker.looks {base B X b b' m : Nat} {w : World} {bs : BS} {s : WS} {pl : List Int} {sz dn : Int} {R : List Thing} (h : Maker base w B bs X b b' s pl sz dn R) (hb : base ≤ w.heap.size) (hf : bs.few m) (hm : m ≤ 1000000) : Calls Tryd.prog 21 #[.pointer (some ⟨B, 0, none⟩)] w fun e w' => e = .returned (.bool true) ∧ (∃ bs', bs'.few m ∧ Maker base w' B bs' X b b' s pl sz dn R) ∧ Chg (fun i => base ≤ i) w w' := by
  obtain ⟨pv, m1, v, v', o', h⟩ := h
  refine (looks_few h hb hf hm).mono fun e w' he => ⟨he.1, ?_, he.2.2⟩
  obtain ⟨bs', hf', hb'⟩ := he.2.1
  exact ⟨bs', hf', pv, m1, v, v', o', hb'⟩
theorem Maker.done {base B X b b' n : Nat} {w : World} {bs : BS} {s : WS} {pl : List Int} {sz dn : Int} {R : List Thing} (h : Maker base w B bs X b b' s pl sz dn R) (hb : base ≤ w.heap.size) (hf : bs.few n) (hn : n ≤ 999990) : Calls Tryd.prog 22 #[.pointer (some ⟨b, 0, none⟩), .pointer (some ⟨b', 0, none⟩), .pointer (some ⟨B, 0, none⟩)] w fun e w' => e = .returned (.bool true) ∧ (∃ bs', bs'.few (n + 4) ∧ Maker base w' B bs' X b b' s pl sz dn R) ∧ Chg (fun i => base ≤ i) w w' := by
  obtain ⟨pv, h⟩ := h
  refine (done_ok h hb hf hn).mono fun e w' he => ⟨he.1, ?_, he.2.2⟩
  obtain ⟨bs', hf', hb'⟩ := he.2.1
  exact ⟨bs', hf', pv, hb'⟩

set_option maxHeartbeats 8000000 in
set_option maxRecDepth 100000 in
theorem writes_walk (w : World) (hT : TableAt w) (lim : Int) {v1 : Value} {ps : List OpT} (hp : OpsAre w v1 ps) :
    Calls Tryd.prog 5 #[.int .i64 lim, v1] w fun e w' => e = .returned (.bool true) ∧ Chg (fun _ => False) w w' := by
  obtain ⟨oa, cap, rfl, hl1, hl2, hps⟩ := hp
  have HP := Lib.hid hps
  have HK := Lib.hid (known_ok hT)
  unfold maxLen at hl2
  clear hT hps
  by_cases hbad : lim < 0 ∨ 67108864 < lim
  · have HB := Lib.hid hbad
    clear hbad
    go_enter Tryd.func5, Tryd.ntmps5
    go_wp2_with fail
    refine HK.out.mono ?_
    rintro e w1 ⟨rfl, hc⟩
    have HC := Lib.hid hc
    clear hc HK
    go_wp2_with fail
    refine (newW_no lim HB.out).mono ?_
    rintro e w2 ⟨rfl, rfl⟩
    go_wp2_with fail
    refine (vnew_no lim HB.out).mono ?_
    rintro e w2 ⟨rfl, rfl⟩
    go_wp2
    go_ret
    exact ⟨rfl, HC.out⟩
  · have HL := Lib.hid (show 0 ≤ lim ∧ lim ≤ 67108864 by omega)
    clear hbad
    go_enter Tryd.func5, Tryd.ntmps5
    go_wp2_with fail
    refine HK.out.mono ?_
    rintro e w1 ⟨rfl, hc⟩
    have HC := Lib.hid hc
    clear hc HK
    go_wp2_with fail
    refine (newW_ok lim HL.out.1 HL.out.2 _).mono ?_
    rintro e w2 ⟨b, m, rfl, hw, hc2⟩
    have HW := Lib.hid hw
    have HC12 := Lib.hid hc2
    have HC2 := Lib.hid (HC.out.trans hc2 fun _ _ => id)
    clear hw hc2
    unfold ptrV
    go_wp2_with fail
    refine (vnew_ok lim HL.out.1 HL.out.2).mono ?_
    rintro e w3 ⟨b', rfl, hv, hc3⟩
    have HV := Lib.hid hv
    have HCC := Lib.hid hc3
    have HC3 := Lib.hid (HC2.out.trans hc3 fun _ _ => id)
    clear hv hc3
    go_upto_region 10 with (fail)
    obtain ⟨wz, hwz⟩ : ∃ wz, wz = (w3.alloc (.cells #[.slice none 0 0, .slice none 0 0, .slice none 0 0, .slice none 0 0, .slice none 0 0, .slice none 0 0] 43 (0, 0))).alloc (.cells #[.pointer (some ⟨b, 0, none⟩), .pointer (some ⟨b', 0, none⟩), .slice none 0 0, .int .i64 0, .int .i64 0] 47 (0, 0)) := ⟨_, rfl⟩
    obtain ⟨B, hB⟩ : ∃ B, B = w3.heap.size := ⟨_, rfl⟩
    have hs1 := HC.out.size
    have hs2 := HC2.out.size
    have hs3 := HC3.out.size
    have hW2 : WrIs w2 w.heap.size b m (.slice none 0 0) (WS.zero lim) := ⟨HW.out.st, rowLow HW.out.row hs1, HW.out.mp, HW.out.fine, Nat.le_trans hs1 HW.out.nb, Nat.le_trans hs1 HW.out.nm⟩
    have hV3 : VwIs w3 w.heap.size b' (.slice none 0 0) (.slice none 0 0) (WS.zero lim) := ⟨HV.out.st, rowLow HV.out.row hs2, rowLow HV.out.orow hs2, HV.out.fine, Nat.le_trans hs2 HV.out.nb⟩
    have S1 : Sep w.heap.size w2 [wrT w.heap.size b m (.slice none 0 0) (WS.zero lim)] := (Sep.nil _ w1).push hs1 HC12.out hW2 (fun i hi => (HW.out.foot hi).1)
    have S2 : Sep w.heap.size w3 [vwT w.heap.size b' (.slice none 0 0) (.slice none 0 0) (WS.zero lim), wrT w.heap.size b m (.slice none 0 0) (WS.zero lim)] := S1.push hs2 HCC.out hV3 (fun i hi => (HV.out.foot hi).1)
    obtain ⟨w4, hw4⟩ : ∃ w4, w4 = w3.alloc (.cells #[.slice none 0 0, .slice none 0 0, .slice none 0 0, .slice none 0 0, .slice none 0 0, .slice none 0 0] 43 (0, 0)) := ⟨_, rfl⟩
    have hc4 : Chg (fun _ => False) w3 w4 := by rw [hw4]; exact (Chg.refl _ _).alloc _
    have hb4 : blk w4 B = some (.cells #[.slice none 0 0, .slice none 0 0, .slice none 0 0, .slice none 0 0, .slice none 0 0, .slice none 0 0] 43 (0, 0)) := by rw [hw4, hB]; exact blk_alloc_at _ _ _ rfl
    have hs4 : w4.heap.size = B + 1 := by rw [hw4, hB]; simp
    have hold : ∀ t ∈ [wrT w.heap.size b m (.slice none 0 0) (WS.zero lim), vwT w.heap.size b' (.slice none 0 0) (.slice none 0 0) (WS.zero lim)], ∀ i, t.foot i → i < w3.heap.size := fun t ht i hi => by
      simp only [List.mem_cons, List.not_mem_nil, or_false] at ht
      rcases ht with rfl | rfl
      · exact Nat.lt_of_lt_of_le (HW.out.foot hi).2 HCC.out.size
      · exact (HV.out.foot hi).2
    have hbk := book_new ((S2.perm (List.Perm.swap _ _ _)).frame hc4) hb4 hold (by omega) (show w.heap.size ≤ w3.heap.size from hs3)
    have hbk2 := (hbk.nilRow 3 1).perm (List.perm_middle (l₁ := [_, _]) (l₂ := [])).symm
    have hc5 : Chg (fun _ => False) w4 wz := by rw [hwz, ← hw4]; exact (Chg.refl _ _).alloc _
    have hbX : blk wz (B + 1) = some (mkO b b' (.slice none 0 0) 0 0) := by rw [hwz, ← hw4]; exact blk_alloc_at _ _ _ hs4.symm
    have hT4 : Two w.heap.size w4 B ⟨[], [], []⟩ b b' (WS.zero lim) (WS.zero lim) [rowT w.heap.size 3 1 (.slice none 0 0) 0 []] := ⟨m, _, _, _, hbk2⟩
    have HMK := Lib.hid (show Maker w.heap.size wz B ⟨[], [], []⟩ (B + 1) b b' (WS.zero lim) [] 0 0 [] from ⟨.slice none 0 0, hT4.add (by omega) hc5 (u := blkT (B + 1) (mkO b b' (.slice none 0 0) 0 0)) hbX (fun i hi => by
      have hi : i = B + 1 := hi
      omega)⟩)
    have HCZ := Lib.hid (show Chg (fun i => w.heap.size ≤ i) w wz from ((HC3.out.trans hc4 fun _ _ => id).trans hc5 fun _ _ => id).mono fun (i : Nat) _ (h : False) => h.elim)
    rw [← hwz, ← hB]
    clear hwz hB hs1 hs2 hs3 hW2 hV3 S1 S2 hw4 hc4 hb4 hs4 hold hbk hbk2 hc5 hbX hT4
    go_upto_block 0 with (fail)
    go_cut [12] from 50 to 80 (fun s12 wq => ∃ (s : WS) (pl : List Int) (sz dn : Int) (bs : BS), bs.few 1000 ∧ Maker w.heap.size wq B bs (B + 1) b b' s pl sz dn [] ∧ Chg (fun i => w.heap.size ≤ i) w wq)
    case first =>
      go_wp2
      go_loopg [12] 200 (fun g s12 wr => ∃ (i : Nat) (s : WS) (pl : List Int) (sz dn : Int) (bs : BS), i + g = 200 ∧ s12 = .int .i64 i ∧ pl.length ≤ 300 * i ∧ (∀ p ∈ pl, I64 p) ∧ bs.few (4 * i) ∧ Maker w.heap.size wr B bs (B + 1) b b' s pl sz dn [] ∧ Chg (fun i => w.heap.size ≤ i) w wr)
      case atStart => exact ⟨0, WS.zero lim, [], 0, 0, ⟨[], [], []⟩, by omega, rfl, by simp, by simp, ⟨by simp, by simp, by simp⟩, HMK.out, HCZ.out⟩
      case round =>
        obtain ⟨i, s, pl, sz, dn, bs, hig, rfl, hpl, hpi, hfew, hmk, hch⟩ := hrel
        have HIG := Lib.hid hig
        have HPL := Lib.hid hpl
        have HPI := Lib.hid hpi
        have HFEW := Lib.hid hfew
        have HMKr := Lib.hid hmk
        have HCH := Lib.hid hch
        clear hpl hpi hfew hmk hch
        by_cases q1 : i < ps.length
        · have q1' : (i : Int) < (ps.length : Int) := by omega
          by_cases q2 : i < 200
          · have q2' : (i : Int) < 200 := by omega
            obtain ⟨g0, o0, bv, rfl, e0, e1, e2, e3, e4, hb, hok⟩ := HP.out i _ (List.getElem?_eq_getElem q1)
            generalize ps[i] = p at *
            obtain ⟨y, n, K, Bq, Sq⟩ := p
            obtain ⟨k0, k1, k2, k3, k4⟩ := hok
            dsimp only at e0 e1 e2 e3 e4 k0 k1 k2 k3 k4 hb
            have fold : ∀ (j : Nat), j < w.heap.size → ¬ (w.heap.size ≤ j) := fun j h1 h2 => by omega
            have d0 := cell_frame HCH.out fold e0
            have d1 := cell_frame HCH.out fold e1
            have d2 := cell_frame HCH.out fold e2
            have d3 := cell_frame HCH.out fold e3
            have d4 := cell_frame HCH.out fold e4
            have HOK := Lib.hid (And.intro k1 (And.intro k2 k3))
            have HI := Lib.hid q1
            have HQ2 := Lib.hid q2
            have HBB := Lib.hid hb
            obtain ⟨oq, cq, rfl, hq1, hq2, -⟩ := hb
            have HCT := Lib.hid (fun wy => cut_ok (w := wy) y n K oq Bq cq hq1 (by unfold maxLen at hq2; omega) Sq)
            obtain ⟨bl, hbl⟩ : ∃ bl, bl = Bq.take 3000 := ⟨_, rfl⟩
            have HBL := Lib.hid (show bl.length ≤ 3000 by rw [hbl, List.length_take]; omega)
            obtain ⟨st, hst⟩ : ∃ st, st = cutS Sq := ⟨_, rfl⟩
            have HST := Lib.hid (show st.size ≤ 70000 by rw [hst]; exact cutS_few _)
            have HBT := Lib.hid (show BytesIs w (.slice oq bl.length cq) bl by rw [hbl]; exact bytes_take HBB.out 3000)
            rw [← hbl, ← hst] at HCT
            clear e0 e1 e2 e3 e4 fold k0 k1 k2 k3 k4 hbl hst hq1 hq2 q1 q2 hig
            go_wp2_with fail
            refine (HCT.out _).mono ?_
            rintro e w5 ⟨rfl, hc5⟩
            have HMK5 := Lib.hid (HMKr.out.still hc5)
            have HC5 := Lib.hid (HCH.out.trans hc5 fun _ _ h => h.elim)
            clear hc5 d0 d1 d2 d3 d4
            go_upto_region 14 with (fail)
            obtain ⟨w6, hw6⟩ : ∃ w6, w6 = w5.alloc (.cells #[.int .i64 y, .int .u64 n, .int .i64 K, .slice oq bl.length cq, .string st] 50 (0, 0)) := ⟨_, rfl⟩
            obtain ⟨O, hO⟩ : ∃ O, O = w5.heap.size := ⟨_, rfl⟩
            have hc6 : Chg (fun _ => False) w5 w6 := by rw [hw6]; exact (Chg.refl _ _).alloc _
            have hob : blk w6 O = some (opO y n K (.slice oq bl.length cq) st) := by rw [hw6, hO]; exact blk_alloc_at _ _ _ rfl
            have HMK6 := Lib.hid (HMK5.out.add HC5.out.size hc6 (u := blkT O (opO y n K (.slice oq bl.length cq) st)) hob (fun i hi => by
              have hi : i = O := hi
              omega))
            have HC6 := Lib.hid (HC5.out.trans hc6 fun _ _ h => h.elim)
            have y0 := cell_of_blk hob 0
            have y1 := cell_of_blk hob 1
            have y2 := cell_of_blk hob 2
            have y3 := cell_of_blk hob 3
            have y4 := cell_of_blk hob 4
            rw [← hw6, ← hO]
            clear hw6 hO hc6 hob
            go_wp2_with fail
            refine (much_ok HMK6.out HC6.out.size y n K HOK.out.2.2 oq bl.length cq st).mono ?_
            rintro e w7 ⟨over, rfl, ⟨sz', dn', hm7⟩, hc7⟩
            have HMK7 := Lib.hid hm7
            have HC7 := Lib.hid (HC6.out.trans hc7 fun _ _ h => h)
            clear hm7 hc7 y0 y1 y2 y3 y4
            cases over with
            | true =>
              have HF10 := Lib.hid (HFEW.out.more (show 4 * i ≤ 1000 by have := HIG.out; omega))
              go_wp2
              go_meet
              case rel => exact ⟨s, pl, sz', dn', bs, HF10.out, HMK7.out.sub (List.sublist_cons_self _ _), HC7.out⟩
            | false =>
              have hob : blk w7 O = some (opO y n K (.slice oq bl.length cq) st) := HMK7.out.mem (t := blkT O (opO y n K (.slice oq bl.length cq) st)) (by simp)
              have y0 := cell_of_blk hob 0
              have y1 := cell_of_blk hob 1
              have y2 := cell_of_blk hob 2
              have y3 := cell_of_blk hob 3
              have y4 := cell_of_blk hob 4
              have HSTP := Lib.hid (step_any HMK7.out HC7.out.size HFEW.out (by have := HIG.out; omega) (by have := HPL.out; have := HIG.out; omega) HPI.out y n K HOK.out.1 (by have := HOK.out.2.1; omega) HOK.out.2.2 oq bl cq HBL.out (fun wy hy => HBT.out.frame (HC7.out.trans hy fun _ _ h => h) fun j hj h => by omega) st HST.out)
              clear hob
              go_wp2_with fail
              refine HSTP.out.mono ?_
              rintro e w8 ⟨rfl, ⟨bs8, s8, pl8, hf8, hl8, hi8, hm8⟩, hc8⟩
              have HL8 := Lib.hid hl8
              have HI8 := Lib.hid hi8
              have HC8 := Lib.hid (HC7.out.trans hc8 fun _ _ h => h)
              have HLK := Lib.hid (hm8.looks HC8.out.size hf8 (by have := HIG.out; omega))
              clear hf8 hl8 hi8 hm8 hc8 HSTP y0 y1 y2 y3 y4
              go_wp2_with fail
              refine HLK.out.mono ?_
              rintro e w9 ⟨rfl, ⟨bs9, hf9, hm9⟩, hc9⟩
              have HF9 := Lib.hid hf9
              have HM9 := Lib.hid (hm9.sub (List.sublist_cons_self _ _))
              have HC9 := Lib.hid (HC8.out.trans hc9 fun _ _ h => h)
              clear hf9 hm9 hc9 HLK
              go_wp2
              go_roundg (200 - (i + 1))
              case measure => have := HIG.out; have := HQ2.out; omega
              case rel => exact ⟨i + 1, s8, pl8, sz', dn', bs9, by have := HQ2.out; omega, by go_num, by have := HL8.out; have := HPL.out; omega, HI8.out, HF9.out, HM9.out, HC9.out⟩
          · have q2' : ¬ (i : Int) < 200 := by omega
            clear q2 q1 hig
            have HF10 := Lib.hid (HFEW.out.more (show 4 * i ≤ 1000 by have := HIG.out; omega))
            go_wp2
            go_meet
            case rel => exact ⟨s, pl, sz, dn, bs, HF10.out, HMKr.out, HCH.out⟩
        · have q1' : ¬ (i : Int) < (ps.length : Int) := by omega
          clear q1 hig
          have HF10 := Lib.hid (HFEW.out.more (show 4 * i ≤ 1000 by have := HIG.out; omega))
          go_wp2
          go_meet
          case rel => exact ⟨s, pl, sz, dn, bs, HF10.out, HMKr.out, HCH.out⟩
    case rest =>
      obtain ⟨s, pl, sz, dn, bs, hfew, hmk, hch⟩ := hcut
      have HD := Lib.hid (hmk.done hch.size hfew (by omega))
      have HCH := Lib.hid hch
      clear hfew hmk hch HMK HCZ
      go_wp2_with fail
      refine HD.out.mono ?_
      rintro e w5 ⟨rfl, ⟨bs5, hf5, hm5⟩, hc5⟩
      have HC5 := Lib.hid (HCH.out.trans hc5 fun _ _ h => h)
      have HLK := Lib.hid (hm5.looks HC5.out.size hf5 (by omega))
      clear hf5 hm5 hc5 HD
      go_wp2_with fail
      refine HLK.out.mono ?_
      rintro e w6 ⟨rfl, ⟨bs6, hf6, hm6⟩, hc6⟩
      have HC6 := Lib.hid (HC5.out.trans hc6 fun _ _ h => h)
      have HLK2 := Lib.hid (hm6.looks HC6.out.size hf6 (by omega))
      clear hf6 hm6 hc6 HLK
      go_wp2_with fail
      refine HLK2.out.mono ?_
      rintro e w7 ⟨rfl, -, hc7⟩
      have HC7 := Lib.hid (HC6.out.trans hc7 fun _ _ h => h)
      clear hc7
      go_wp2
      go_ret
      exact ⟨rfl, HC7.out.mono fun i hi h => by omega⟩

theorem writes_row (w : World) (hT : TableAt w) (a0 : Int) (w0 : (Lit.int .i64 a0).wf = true) {v1 : Value} (h1 : ∃ ps, OpsAre w v1 ps) :
    Calls Tryd.prog 5 #[.int .i64 a0, v1] w fun e w' => e = .returned (.bool true) ∧ Chg (fun _ => False) w w' := by
  obtain ⟨ps, hp⟩ := h1
  exact writes_walk w hT a0 hp
end Go.Proofs.YtfihpiommicdbaaDoor
