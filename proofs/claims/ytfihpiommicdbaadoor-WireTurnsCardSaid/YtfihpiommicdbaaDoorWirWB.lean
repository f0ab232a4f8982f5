/- The document's writer: contracts of Text, Pad, Open, Done. No condition. -/
import Derived.Test.YtfihpiommicdbaaDoorWirWA
import Derived.Test.YtfihpiommicdbaaDoorWirRD
namespace Go.Proofs.YtfihpiommicdbaaDoor
open Go.RowKit Go.Cl
set_option linter.unusedVariables false
set_option linter.unusedSimpArgs false
attribute [local go_sem] lt_add_one' blk_alloc_past blk_alloc_at blk_drew blk_setCell_ne

theorem nodup_few : ∀ (L : Nat) (l : List Int), l.Nodup → (∀ p ∈ l, 0 ≤ p ∧ p < L) → l.length ≤ L
  | 0, l, _, h => by
    cases l with
    | nil => simp
    | cons a l => have := h a (by simp); omega
  | L + 1, l, hn, h => by
    by_cases hm : (L : Int) ∈ l
    · have h1 := nodup_few L (l.erase L) (hn.erase _) fun p hp => by
        have h2 := (hn.mem_erase_iff).1 hp
        have h3 := h p h2.2
        have : p ≠ (L : Int) := h2.1
        omega
      rw [List.length_erase_of_mem hm] at h1
      omega
    · have h1 := nodup_few L l hn fun p hp => by
        have h3 := h p hp
        have : p ≠ (L : Int) := fun e => hm (e ▸ hp)
        omega
      omega
theorem WFine.opens {s : WS} (h : WFine s) : s.op.length ≤ s.xs.length := nodup_few _ _ h.nodup fun p hp => by have := h.places p hp; omega
set_option maxRecDepth 100000 in
theorem info3w : ∃ i, Tryd.prog.info? 3 = some i ∧ i.zero = some (.int .i64 0) ∧ i.size = 1 ∧ i.bytes = 8 := ⟨_, rfl, by kernel_rfl, by kernel_rfl, by kernel_rfl⟩

/-- The list of places is another one. -/
theorem VwIs.setO {w w1 : World} {base b : Nat} {v o o' : Value} {s : WS} {op : List Int} (h : VwIs w base b v o s) (hc : Chg (fun i => some i = o.ownBlock) w w1) (hown : w1.ownsRow base 3 1 o' op.length (i64s op.reverse)) (hg : o'.ownBlock = o.ownBlock ∨ ∃ g, o'.ownBlock = some g ∧ w.heap.size ≤ g) (hp : ∀ p ∈ op, 0 ≤ p ∧ p + 4 ≤ s.xs.length) (hn : op.Nodup) : VwGoes w (w1.setCell ⟨b, 2, none⟩ o') base b v o { s with op := op } := by
  obtain ⟨n1, n2, n3⟩ := h.ne
  have hb1 : blk w1 b = _ := hc.blk' h.st n2
  have hc2 : Chg (fun i => i = b) w1 (w1.setCell ⟨b, 2, none⟩ o') := Chg.setCell (S := fun i => i = b) (Chg.refl _ _) (p := ⟨b, 2, none⟩) (fun _ => rfl) _
  have ho1 : w1.ownsRow base 5 1 v s.xs.length (u8s s.xs) := row_frame h.row hc fun g hg e => n3 g hg.symm e
  have n4 : some b ≠ o'.ownBlock := fun e => by
    rcases hg with hg | ⟨g, hg, hgl⟩
    · exact n2 (e.trans hg)
    · rw [hg] at e
      cases e
      have := blk_lt h.st
      omega
  refine ⟨v, o', ⟨?_, row_frame ho1 hc2 fun g hg e => n1 (by rw [← e, hg]), row_frame hown hc2 fun g hg e => n4 (by rw [← e, hg]), ⟨h.fine.l0, h.fine.l1, h.fine.few, h.fine.byte, hp, hn⟩, h.nb⟩, (hc.mono fun i _ h => .inr (.inr h)).trans hc2 fun i _ h => .inl h, fun i hi => ?_⟩
  · rw [blk_setCell_eq, hb1]
    simp [objSet]
  · rcases hi with rfl | hi | hi
    · exact .inl (.inl rfl)
    · exact .inl (.inr (.inl hi))
    · rcases hg with hg | ⟨g, hg, hgl⟩
      · exact .inl (.inr (.inr (hi.trans hg)))
      · rw [hg] at hi
        cases hi
        exact .inr hgl

theorem text0_bad {s : WS} (h : s.bad ≠ 0) (z : ByteArray) : s.text0 z = s := by unfold WS.text0 WS.fail; simp [h]

set_option maxHeartbeats 2000000 in
set_option maxRecDepth 100000 in
theorem vwtext_ok {w : World} {base b : Nat} {v o : Value} {s : WS} (h : VwIs w base b v o s) (hbase : base ≤ w.heap.size) (z : ByteArray) (hz : z.size ≤ 1000000) :
    Calls Tryd.prog 56 #[.pointer (some ⟨b, 0, none⟩), .string z] w fun r w' => r = .returned (.tuple #[]) ∧ VwGoes w w' base b v o (s.text z) := by
  obtain ⟨i0, hi, hz0, hz1, hz2⟩ := info5z
  obtain ⟨hb, -, -, -, f3, -, -, z3⟩ := h.facts
  have H := Lib.hid h
  have HZ := Lib.hid hz
  have HBASE := Lib.hid hbase
  clear h hbase
  have key : (s.bad = 0 ∧ 65535 < z.size) ∨ (s.bad = 0 ∧ ¬ 65535 < z.size) ∨ s.bad ≠ 0 := by omega
  rcases key with ⟨hbad, hbig⟩ | ⟨hbad, hbig⟩ | hbad
  case' inl =>
    have hb1 : (s.bad == 0) = true := by simp [hbad]
    have hbig' : (65535 : Int) < (z.size : Int) := by omega
    have HE := Lib.hid (show s.text0 z = { s with bad := 15 } by unfold WS.text0 WS.fail; rw [if_pos hbig, if_pos hbad])
    clear hbad hbig
    go_enter Tryd.func56, Tryd.ntmps56
    go_upto_region 2 with (fail)
    obtain ⟨wc, hwc⟩ : ∃ wc, wc = w.setCell ⟨b, 3, none⟩ (.int .i64 15) := ⟨_, rfl⟩
    rw [← hwc]
    have HG1 := Lib.hid (show VwGoes w wc base b v o (s.text0 z) by rw [HE.out, hwc]; exact H.out.setBad 15)
    clear hwc HE
  case' inr.inl =>
    have hb1 : (s.bad == 0) = true := by simp [hbad]
    have hbig' : ¬ (65535 : Int) < (z.size : Int) := by omega
    have HE := Lib.hid (show s.text0 z = s by unfold WS.text0; rw [if_neg hbig])
    clear hbad hbig
    go_enter Tryd.func56, Tryd.ntmps56
    go_upto_region 2 with (fail)
    obtain ⟨wc, hwc⟩ : ∃ wc, wc = w := ⟨_, rfl⟩
    rw [← hwc]
    have HG1 := Lib.hid (show VwGoes w wc base b v o (s.text0 z) by rw [HE.out, hwc]; exact H.out.stays (Chg.refl _ _))
    clear hwc HE
  case' inr.inr =>
    have hb1 : (s.bad == 0) = false := by simp [hbad]
    have HE := Lib.hid (text0_bad hbad z)
    clear hbad
    go_enter Tryd.func56, Tryd.ntmps56
    go_upto_region 2 with (fail)
    obtain ⟨wc, hwc⟩ : ∃ wc, wc = w := ⟨_, rfl⟩
    rw [← hwc]
    have HG1 := Lib.hid (show VwGoes w wc base b v o (s.text0 z) by rw [HE.out, hwc]; exact H.out.stays (Chg.refl _ _))
    clear hwc HE
  all_goals
    obtain ⟨v1, o1, hw1, hc1, hf1⟩ := HG1.out
    have HW1 := Lib.hid hw1
    have HC1 := Lib.hid hc1
    have HF1 := Lib.hid hf1
    have hz' : (z.size : Int) ≤ 1000000 := by omega
    have wz : IntKind.u64.wrap (z.size : Int) = (z.size : Int) := by rw [IntKind.wrap_u64]; omega
    have HN := Lib.hid (number_ok (w := wc) z.size (by omega) (by omega) 2 (by omega))
    clear hw1 hc1 hf1 f3 z3 hb HG1
    go_wp2_with fail
    refine HN.out.mono ?_
    rintro e w2 ⟨v2, rfl, hrow, hc2⟩
    have HRow := Lib.hid hrow
    have HC2 := Lib.hid hc2
    obtain ⟨o2, c2, rfl, -⟩ := row_form hrow
    clear hrow hc2 HN
    go_wp2_with (at_builtin; refine wpList_app_str rfl _ _ 24 9 rfl wc.heap.size 5 i0 Tryd.underlying24 Tryd.underlying9 hi hz0 hz1 hz2 (.slice o2 2 c2) 2 (u8s (leB z.size 2)) (by rfl) HRow.out z (by rfl) (by have := HZ.out; unfold maxLen; omega) (by have := HZ.out; omega) HC2.out.size ?_; intro v3 w3 hown hgrow hlie; have HO := Lib.hid hown; have HG := Lib.hid hgrow; have HLie := Lib.hid hlie; clear hown hgrow hlie; obtain ⟨o3, c3, rfl, -⟩ := row_form HO.out; have hc3 : Chg (fun _ => False) wc w3 := HC2.out.step (Chg.of_grown HG.out) (fun _ _ h => h) fun i hi h => by { obtain ⟨hb, _⟩ := row_block HRow.out h.symm; omega }; have HC3 := Lib.hid hc3; have hr3 : w3.ownsRow wc.heap.size 5 1 (.slice o3 (2 + z.size) c3) (2 + z.size) (u8s (leB z.size 2 ++ strNums z)) := by { have h9 := HO.out; rw [strCells_nums] at h9; rw [u8s, List.map_append]; exact h9 }; have hy3 := row_bytes hr3 (fun x hx => (List.mem_append.1 hx).elim (leB_byte _ _ x) (strNums_byte z x)); have hl3 : (leB z.size 2 ++ strNums z).length = 2 + z.size := by { rw [List.length_append, leB_len, strNums_len] }; have HR := Lib.hid (vwraw_ok (HW1.out.frame hc3 fun _ _ => id) (Nat.le_trans HBASE.out (Nat.le_trans HC1.out.size hc3.size)) (oa := o3) (c := c3) (ys := leB z.size 2 ++ strNums z) (by rw [hl3]; exact hy3) (by rw [hl3]; have := HZ.out; omega)); rw [hl3] at HR; clear hr3 hy3 hl3 hc3)
    refine HR.out.mono ?_
    rintro e w4 ⟨rfl, hg⟩
    have HG4 := Lib.hid (VwGoes.after HC1.out HF1.out (VwGoes.behind HC3.out hg))
    clear hg HR
    go_wp2
    go_end0
    exact ⟨rfl, HG4.out⟩

set_option maxHeartbeats 2000000 in
set_option maxRecDepth 100000 in
theorem vwpad_ok {w : World} {base b : Nat} {v o : Value} {s : WS} (h : VwIs w base b v o s) (hbase : base ≤ w.heap.size) (t : Int) :
    Calls Tryd.prog 58 #[.pointer (some ⟨b, 0, none⟩), .int .i64 t] w fun r w' => r = .returned (.tuple #[]) ∧ VwGoes w w' base b v o (s.pad t) := by
  obtain ⟨i0, hi, hz0, hz1, hz2⟩ := info5z
  obtain ⟨hb, -, f1, -, f3, -, -, z3⟩ := h.facts
  have H := Lib.hid h
  have HBASE := Lib.hid hbase
  by_cases hbad : s.bad = 0
  · have hb1 : (s.bad == 0) = true := by simp [hbad]
    have hb2 : (s.bad != 0) = false := by simp [hbad]
    by_cases hto : t < 1 ∨ 4096 < t
    · have HE := Lib.hid (show s.pad t = { s with bad := 10 } by unfold WS.pad WS.fail; rw [if_pos hto, if_pos hbad])
      clear h hbad f1
      rcases hto with hto | hto
      · go_enter Tryd.func58, Tryd.ntmps58
        go_wp2
        refine bodyPost_ret (results_none rfl _ _ _) rfl ?_
        exact ⟨rfl, by rw [HE.out]; exact H.out.setBad 10⟩
      · have hto2 : ¬ t < 1 := by omega
        go_enter Tryd.func58, Tryd.ntmps58
        go_wp2
        refine bodyPost_ret (results_none rfl _ _ _) rfl ?_
        exact ⟨rfl, by rw [HE.out]; exact H.out.setBad 10⟩
    · obtain ⟨q, rfl⟩ := Int.eq_ofNat_of_zero_le (show 0 ≤ t by omega)
      have t1 : ¬ (q : Int) < 1 := by omega
      have t2 : ¬ (4096 : Int) < (q : Int) := by omega
      have t3 : ((q : Int) == 0) = false := by simp; omega
      have HE := Lib.hid (show s.pad q = s.raw (List.replicate (gapN s.xs.length q) 0) by unfold WS.pad; rw [if_neg hto]; rfl)
      have ht0 : 0 < q := by omega
      have hgl := gapN_lt (p := s.xs.length) ht0
      obtain ⟨n, hn⟩ : ∃ n, n = gapN s.xs.length q := ⟨_, rfl⟩
      rw [← hn] at HE hgl
      have G0 := Lib.hid (show (s.xs.length + n) % q = 0 by rw [hn]; exact gap_zero ht0)
      have GM := Lib.hid (fun k (hk : k < n) => (show (s.xs.length + k) % q ≠ 0 from gap_more ht0 (by rw [← hn]; exact hk)))
      have HT := Lib.hid (show n ≤ 4096 by omega)
      have HFF := Lib.hid (And.intro h.fine.few h.fine.l1)
      have HR0 := Lib.hid (nil_row w w.heap.size 5)
      obtain ⟨oB, cB, hv, -⟩ := row_form h.row
      rw [hv] at f1
      clear h hbad hto hn hgl hbase z3
      go_enter Tryd.func58, Tryd.ntmps58
      go_wp2
      go_loopg [4] n (fun g s4 wr => ∃ k : Nat, k + g = n ∧ wr.ownsRow w.heap.size 5 1 s4 k (u8s (List.replicate k 0)) ∧ Chg (fun _ => False) w wr)
      case atStart => exact ⟨0, by omega, HR0.out, Chg.refl _ _⟩
      case round =>
        obtain ⟨k, hk, hrow, hc⟩ := hrel
        have HK := Lib.hid hk
        have HR := Lib.hid hrow
        have HC := Lib.hid hc
        obtain ⟨o1, c1, rfl, -⟩ := row_form hrow
        have hx := H.out.frame hc fun _ _ => id
        obtain ⟨yb, -, y1, -⟩ := hx.facts
        rw [hv] at y1
        have hr1 := rem_nat s.xs.length k q
        have hr2 : ((s.xs.length : Int) + (k : Int)) % (q : Int) = (((s.xs.length + k) % q : Nat) : Int) := rfl
        have hf1 := HFF.out.1
        have hf2 := HFF.out.2
        have hf3 := HT.out
        have wk1 : IntKind.i64.wrap ((s.xs.length : Int) + (k : Int)) = (s.xs.length : Int) + (k : Int) := by rw [IntKind.wrap_i64]; omega
        obtain ⟨Z, hZ⟩ : ∃ Z : Int, Z = (((s.xs.length + k) % q : Nat) : Int) := ⟨_, rfl⟩
        rw [← hZ] at hr1 hr2
        clear hrow hc hx
        by_cases hlt : k < n
        · have hz : (Z != 0) = true := by
            have := GM.out k hlt
            rw [bne_iff_ne]
            omega
          have HLT := Lib.hid hlt
          clear hZ hlt hk hf1 hf2 hf3
          go_wp2_with (at_builtin; refine wpList_app rfl _ _ 24 rfl w.heap.size 5 i0 (.int .u8 0) 1 1 Tryd.underlying24 hi hz0 hz1 hz2 rfl (by decide) (.slice o1 k c1) k (u8s (List.replicate k 0)) (by rfl) (row_frame HR.out ((Chg.refl (fun _ => False) wr).alloc _) fun _ _ => id) _ 1 1 [.int .u8 0] (by rfl) (SrcIs.some (by rfl) (by simp [Value.oneCell']) (World.news_of_block (heap_alloc_new _ _))) (fun h => by cases h) (by have := HLT.out; have := HT.out; unfold maxLen; omega) (by have := HLT.out; have := HT.out; omega) (by have := HC.out.size; simp; omega) ?_; intro v2 w3 hown hgrow hlie; have HO := Lib.hid hown; have HC3 := Lib.hid (Chg.of_grown hgrow); clear hown hgrow hlie)
          have E1 := Lib.hid (show w3.ownsRow w.heap.size 5 1 v2 (k + 1) (u8s (List.replicate (k + 1) 0)) by
            have := HO.out
            rw [List.replicate_succ', u8s, List.map_append]
            exact this)
          have E2 := Lib.hid (show Chg (fun _ => False) w w3 from ((HC.out.trans ((Chg.refl (fun _ => False) wr).alloc _) fun _ _ => id).step HC3.out (fun _ _ h => h) fun i hi h => by
            obtain ⟨hb, _⟩ := row_block HR.out h.symm
            omega))
          go_wp2
          go_roundg (n - (k + 1))
          case measure => have := HLT.out; have := HK.out; omega
          case rel => exact ⟨k + 1, by have := HLT.out; omega, E1.out, E2.out⟩
        · have hke : k = n := by omega
          subst hke
          have hz : (Z != 0) = false := by
            have := G0.out
            rw [bne_eq_false_iff_eq]
            omega
          have hl : (List.replicate k (0 : Int)).length = k := List.length_replicate
          have hby := row_bytes HR.out (fun x hx => by have := (List.mem_replicate.1 hx).2; omega)
          have HRW := Lib.hid (vwraw_ok (H.out.frame HC.out fun _ _ => id) (Nat.le_trans HBASE.out HC.out.size) (oa := o1) (c := c1) (ys := List.replicate k 0) (by rw [hl]; exact hby) (by rw [hl]; omega))
          rw [hl] at HRW
          clear hZ hlt hk hf1 hf2 hf3 hby hl
          go_wp2_with fail
          refine HRW.out.mono ?_
          rintro e w4 ⟨rfl, hg⟩
          have HG := Lib.hid (VwGoes.behind HC.out hg)
          clear hg HRW
          go_wp2
          go_end0
          exact ⟨rfl, by rw [HE.out]; exact HG.out⟩
  · have hb1 : (s.bad == 0) = false := by simp [hbad]
    have hb2 : (s.bad != 0) = true := by simp [hbad]
    have HE := Lib.hid (show s.pad t = s by
      have e : s.raw (List.replicate (gapN s.xs.length t.toNat) 0) = s := by unfold WS.raw; rw [roomB_bad hbad, room_bad hbad]; simp
      unfold WS.pad WS.fail
      rw [e]
      simp [hbad])
    clear h hbad
    go_enter Tryd.func58, Tryd.ntmps58
    go_wp2
    refine bodyPost_ret (results_none rfl _ _ _) rfl ?_
    exact ⟨rfl, by rw [HE.out]; exact H.out.stays (Chg.refl _ _)⟩

set_option maxHeartbeats 2000000 in
set_option maxRecDepth 100000 in
theorem vwopen_ok {w : World} {base b : Nat} {v o : Value} {s : WS} (h : VwIs w base b v o s) (hbase : base ≤ w.heap.size) :
    Calls Tryd.prog 43 #[.pointer (some ⟨b, 0, none⟩)] w fun r w' => r = .returned (.int .i64 s.openV) ∧ VwGoes w w' base b v o s.opened := by
  obtain ⟨i0, hi, hz0, hz1, hz2⟩ := info3w
  obtain ⟨hb, -, f1, -⟩ := h.facts
  obtain ⟨o1, c1, hv, -⟩ := row_form h.row
  have H := Lib.hid h
  have HBASE := Lib.hid hbase
  subst hv
  have hca : Chg (fun _ => False) w (w.alloc (.cells (u8s (List.replicate 4 0)).toArray 5 (0, 0))) := (Chg.refl _ _).alloc _
  have hby := block_bytes (w := w.alloc (.cells (u8s (List.replicate 4 0)).toArray 5 (0, 0))) (g := w.heap.size) (xs := List.replicate 4 0) (e := 5) (fr := (0, 0)) (blk_alloc_at _ _ _ rfl) (fun b hb => by have := (List.mem_replicate.1 hb).2; omega) (by rw [List.length_replicate]; unfold maxLen; omega)
  have HRW := Lib.hid (vwraw_ok (h.frame hca fun _ _ => id) (Nat.le_trans hbase hca.size) hby (by rw [List.length_replicate]; omega))
  have HCA := Lib.hid hca
  clear h hbase hca hby
  have HRW2 := Lib.hid (show Calls Tryd.prog 45 #[.pointer (some ⟨b, 0, none⟩), .slice (some ⟨w.heap.size, 0, none⟩) 4 4] (w.alloc (.cells #[.int .u8 0, .int .u8 0, .int .u8 0, .int .u8 0] 5 (0, 0))) fun r w' => r = .returned (.tuple #[]) ∧ VwGoes (w.alloc (.cells #[.int .u8 0, .int .u8 0, .int .u8 0, .int .u8 0] 5 (0, 0))) w' base b (.slice o1 s.xs.length c1) o (s.raw [0, 0, 0, 0]) from HRW.out)
  have HCA2 := Lib.hid (show Chg (fun _ => False) w (w.alloc (.cells #[.int .u8 0, .int .u8 0, .int .u8 0, .int .u8 0] 5 (0, 0))) from HCA.out)
  clear HRW HCA
  cases hr : s.roomB 4 with
  | false =>
    have HE := Lib.hid (show s.opened = s.raw [0, 0, 0, 0] by unfold WS.opened WS.raw; rw [if_neg (by simp [hr]), if_neg (by simpa using hr)]; rfl)
    have HE2 := Lib.hid (show s.openV = 0 by unfold WS.openV; rw [if_neg (by simp [hr])])
    have hne : (s.raw [0, 0, 0, 0]).bad ≠ 0 := by
      have e : s.raw [0, 0, 0, 0] = s.room 4 := by unfold WS.raw; rw [if_neg (by simpa using hr)]; rfl
      rw [e]
      unfold WS.room
      unfold WS.roomB at hr
      split
      · show (12 : Int) ≠ 0
        decide
      · rename_i hc
        intro e
        simp [e] at hr hc
        omega
    have hb1 : ((s.raw [0, 0, 0, 0]).bad != 0) = true := by simpa using hne
    clear hr hne
    go_enter Tryd.func43, Tryd.ntmps43
    go_wp2_with fail
    refine HRW2.out.mono ?_
    rintro e w1 ⟨rfl, hg⟩
    have HG := Lib.hid (VwGoes.behind HCA2.out hg)
    obtain ⟨v1, o1, hw1, -⟩ := hg
    obtain ⟨yb, -, -, -, y3, -⟩ := hw1.facts
    clear hw1 HRW2 f1
    go_wp2
    go_ret
    exact ⟨by rw [HE2.out]; rfl, by rw [HE.out]; exact HG.out⟩
  | true =>
    have HE := Lib.hid (show s.opened = { s with xs := s.xs ++ [0, 0, 0, 0], op := (s.xs.length : Int) :: s.op } by unfold WS.opened; rw [if_pos hr])
    have HE2 := Lib.hid (show s.openV = s.xs.length by unfold WS.openV; rw [if_pos hr])
    have hraw : s.raw [0, 0, 0, 0] = { s with xs := s.xs ++ [0, 0, 0, 0] } := by
      unfold WS.raw
      rw [if_pos (by simpa using hr)]
    rw [hraw] at HRW2
    have hb1 : (s.bad != 0) = false := by
      unfold WS.roomB at hr
      simp at hr
      simp [hr.1]
    clear hr hraw
    go_enter Tryd.func43, Tryd.ntmps43
    go_wp2_with fail
    refine HRW2.out.mono ?_
    rintro e w1 ⟨rfl, v1, q1, hw1, hc1, hf1⟩
    obtain ⟨yb, -, -, y2, y3, -, z2, -⟩ := hw1.facts
    dsimp only at y3
    obtain ⟨oO, cO, rfl, -⟩ := row_form hw1.orow
    have HRow := Lib.hid hw1.orow
    have HOP := Lib.hid (show s.op.length ≤ 67108864 from by have := H.out.fine.opens; have := H.out.fine.few; have := H.out.fine.l1; omega)
    have HW1 := Lib.hid hw1
    have HC1 := Lib.hid hc1
    have HF1 := Lib.hid hf1
    have HNB := Lib.hid hw1.ne.2.1
    have HBS := Lib.hid (Nat.le_trans HBASE.out (Nat.le_trans HCA2.out.size hc1.size))
    clear hw1 hc1 hf1 HRW2 f1
    go_wp2_with (at_builtin; go_loud (refine wpList_app rfl _ _ 45 rfl base 3 i0 (.int .i64 0) 1 8 Tryd.underlying45 hi hz0 hz1 hz2 rfl (by decide) (.slice oO s.op.length cO) s.op.length (i64s s.op.reverse) (by rfl) (row_frame HRow.out ((Chg.refl (fun _ => False) w1).alloc _) fun _ _ => id) _ 1 1 [.int .i64 (s.xs.length : Int)] (by rfl) (SrcIs.some (by rfl) (by simp [Value.oneCell']) (World.news_of_block (heap_alloc_new _ _))) (fun h => by cases h) (by have := HOP.out; unfold maxLen; omega) (by have := HOP.out; omega) (by have := HBS.out; simp; omega) ?_); intro v2 w2 hown hgrow hlie; have hc2 : Chg (fun i => some i = (Value.slice oO s.op.length cO).ownBlock) w1 w2 := ((Chg.refl _ w1).alloc _).trans (Chg.of_grown hgrow) fun _ _ h => h; have hb2 := hc2.blk' HW1.out.st HNB.out; have HC2 := Lib.hid hc2; have f2d := cell_of_blk hb2 2; have z2d := frozen_of_blk hb2 2; have yb2 := blk_lt hb2; clear hb2 hc2; obtain ⟨ov, cv, rfl, hv1, hv2, _⟩ := row_form hown; have HO := Lib.hid hown; have HG := Lib.hid hgrow; have HLie := Lib.hid hlie; clear hown hgrow hlie)
    go_ret
    refine ⟨by rw [HE2.out]; rfl, ?_⟩
    rw [HE.out]
    refine VwGoes.behind HCA2.out (VwGoes.after HC1.out HF1.out ?_)
    exact HW1.out.setO (op := (s.xs.length : Int) :: s.op) HC2.out (by have h9 := HO.out; rw [List.length_cons, List.reverse_cons, i64s, List.map_append]; exact h9) (HLie.out.imp id fun h => ⟨_, h, by simp⟩) (fun p hp => by
      rcases List.mem_cons.1 hp with rfl | hp
      · simp
      · exact HW1.out.fine.places p hp) (List.nodup_cons.2 ⟨fun hm => by have := H.out.fine.places _ hm; omega, H.out.fine.nodup⟩)

set_option maxHeartbeats 2000000 in
set_option maxRecDepth 100000 in
theorem vwdone_bad {w : World} {base b : Nat} {v o : Value} {s : WS} (h : VwIs w base b v o s) (hd : s.done ≠ 0) :
    Calls Tryd.prog 61 #[.pointer (some ⟨b, 0, none⟩)] w fun r w' => r = .returned (.tuple #[.slice none 0 0, .int .i64 s.done]) ∧ Chg (fun _ => False) w w' := by
  obtain ⟨hb, -, -, f2, f3, -⟩ := h.facts
  obtain ⟨oO, cO, hv, -⟩ := row_form h.orow
  rw [hv] at f2
  clear h
  by_cases hbad : s.bad = 0
  · have hb1 : (s.bad != 0) = false := by simp [hbad]
    have ho : s.op ≠ [] := by intro e; apply hd; unfold WS.done; simp [hbad, e]
    have HE := Lib.hid (show s.done = 10 by unfold WS.done; simp [hbad, ho])
    have hop : (0 : Int) < (s.op.length : Int) := by have := List.length_pos_iff.2 ho; omega
    clear hbad ho hd
    go_enter Tryd.func61, Tryd.ntmps61
    go_wp2
    go_ret2
    exact ⟨by rw [HE.out]; rfl, Chg.refl _ _⟩
  · have hb1 : (s.bad != 0) = true := by simp [hbad]
    have HE := Lib.hid (show s.done = s.bad by unfold WS.done; simp [hbad])
    clear hbad hd
    go_enter Tryd.func61, Tryd.ntmps61
    go_wp2
    go_quiet (fail)
    go_wp2
    go_ret2
    exact ⟨by rw [HE.out]; rfl, (Chg.refl _ _).drewN _⟩

set_option maxHeartbeats 2000000 in
set_option maxRecDepth 100000 in
theorem vwdone_ok {w : World} {base b : Nat} {v o : Value} {s : WS} (h : VwIs w base b v o s) (hd : s.done = 0) :
    Calls Tryd.prog 61 #[.pointer (some ⟨b, 0, none⟩)] w fun r w' => ∃ v', r = .returned (.tuple #[v', .int .i64 0]) ∧ w'.ownsRow w.heap.size 5 1 v' s.xs.length (u8s s.xs) ∧ Chg (fun _ => False) w w' := by
  obtain ⟨hb, -, f1, f2, f3, -⟩ := h.facts
  have hbad : s.bad = 0 := by
    by_cases hh : s.bad = 0
    · exact hh
    · unfold WS.done at hd; simp [hh] at hd
  have hb1 : (s.bad != 0) = false := by simp [hbad]
  have ho : s.op = [] := by
    by_cases hh : s.op = []
    · exact hh
    · unfold WS.done at hd; simp [hh, hbad] at hd
  have hop : ¬ (0 : Int) < (s.op.length : Int) := by simp [ho]
  obtain ⟨oO, cO, hvo, -⟩ := row_form h.orow
  rw [hvo] at f2
  obtain ⟨o1, c1, hv, hc1, hc2, hc3, _⟩ := row_form h.row
  subst hv
  have HC0 := Lib.hid (show o1 = none → c1 = 0 from fun e => (hc3 e).2)
  have HS := Lib.hid ((row_bytes h.row h.fine.byte).src)
  obtain ⟨i0, hi, hz0, hz1, hz2⟩ := info5z
  have HN := Lib.hid (nil_row w w.heap.size 5)
  have HL := Lib.hid (And.intro h.fine.few h.fine.l1)
  clear h hbad ho hd hc1 hc2 hc3
  go_enter Tryd.func61, Tryd.ntmps61
  go_wp2_with (at_builtin; refine wpList_app rfl _ _ 24 rfl w.heap.size 5 i0 (.int .u8 0) 1 1 Tryd.underlying24 hi hz0 hz1 hz2 rfl (by decide) (.slice none 0 0) 0 [] (by rfl) HN.out o1 s.xs.length c1 _ (by rfl) HS.out HC0.out (by have := HL.out; unfold maxLen; omega) (by have := HL.out; omega) (Nat.le_refl _) ?_; intro v1 w1 hown hgrow hlie; have HO := Lib.hid hown; have HC := Lib.hid (show Chg (fun _ => False) w w1 from (Chg.of_grown hgrow).mono fun _ _ h => by simp [Value.ownBlock] at h); clear hown hgrow hlie)
  go_ret2
  exact ⟨_, rfl, by have := HO.out; simpa using this, HC.out⟩
end Go.Proofs.YtfihpiommicdbaaDoor
