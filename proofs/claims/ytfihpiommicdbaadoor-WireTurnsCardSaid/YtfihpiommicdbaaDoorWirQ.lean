/- Writers: contracts of Pad, Open, Shut. No condition. -/
import Derived.Test.YtfihpiommicdbaaDoorWirP
import Derived.Test.YtfihpiommicdbaaDoorWirJ
import Derived.StillTailTactics
import Derived.BigRegion
namespace Go.Proofs.YtfihpiommicdbaaDoor
open Go.RowKit Go.Cl
open Go.Maps (Keyed)
open Go.ChangeMaps (setBlock)
set_option linter.unusedVariables false
set_option linter.unusedSimpArgs false
attribute [local go_sem] lt_add_one' blk_alloc_past blk_alloc_at blk_drew blk_setCell_ne blk_setBlock_ne blk_setBlock_eq cell_setBlock_ne frozen_setBlock_ne size_setBlock

theorem make_noughts (n : Nat) (hn : n ≤ 281474976710656) : ∀ w' : World, (Instr.makeSlice 24 (.int .i64 n) (.int .i64 n)).run Tryd.prog w' = .ok (.slice (some ⟨w'.heap.size, 0, none⟩) n n) (w'.alloc (.cells (u8s (List.replicate n 0)).toArray 5 (0, 0))) := fun w' => by
  obtain ⟨i, hi, hz, hs, hb⟩ := info5z
  have := run_make (P := Tryd.prog) w' 24 5 i (.int .u8 0) Tryd.underlying24 hi hz .i64 .i64 n n (by omega) (Int.le_refl _) (by rw [hb]; omega) (by omega)
  rw [this, hs]
  simp only [Int.toNat_natCast, Nat.mul_one]
  have e : madeCells (Value.int .u8 0).cells n = (u8s (List.replicate n 0)).toArray := by
    apply Array.ext'
    apply List.ext_getElem?
    intro j
    unfold u8s
    by_cases hj : j < n
    · simp [madeCells, hj, Value.cells, Nat.mod_one]
    · rw [List.getElem?_eq_none (by simp [madeCells]; omega), List.getElem?_eq_none (by simp; omega)]
  rw [e]

/-- What Pad does to a writer. -/
def WS.pad (s : WS) (t : Int) : WS := if t < 1 ∨ 4096 < t then s.fail 10 else s.raw (List.replicate (gapN s.xs.length t.toNat) 0)

set_option maxHeartbeats 2000000 in
set_option maxRecDepth 100000 in
theorem wpad_ok {w : World} {base b m : Nat} {v : Value} {s : WS} (h : WrIs w base b m v s) (hbase : base ≤ w.heap.size) (t : Int) :
    Calls Tryd.prog 57 #[ptrV b, .int .i64 t] w fun r w' => r = .returned (.tuple #[]) ∧ WGoes w w' base b m v (s.pad t) := by
  by_cases hto : t < 1 ∨ 4096 < t
  · have HE := Lib.hid (show s.pad t = s.fail 10 by unfold WS.pad; rw [if_pos hto])
    have HF := Lib.hid (wfail_ok h 10)
    clear h
    unfold ptrV at *
    rcases hto with hto | hto
    · go_enter Tryd.func57, Tryd.ntmps57
      go_wp2_with fail
      refine HF.out.mono ?_
      rintro e w1 ⟨rfl, hg⟩
      have HG := Lib.hid hg
      clear hg HF
      go_wp2
      refine bodyPost_ret (results_none rfl _ _ _) rfl ?_
      exact ⟨rfl, by rw [HE.out]; exact HG.out⟩
    · have hto2 : ¬ t < 1 := by omega
      go_enter Tryd.func57, Tryd.ntmps57
      go_wp2_with fail
      refine HF.out.mono ?_
      rintro e w1 ⟨rfl, hg⟩
      have HG := Lib.hid hg
      clear hg HF
      go_wp2
      refine bodyPost_ret (results_none rfl _ _ _) rfl ?_
      exact ⟨rfl, by rw [HE.out]; exact HG.out⟩
  · obtain ⟨q, rfl⟩ := Int.eq_ofNat_of_zero_le (show 0 ≤ t by omega)
    have t1 : ¬ (q : Int) < 1 := by omega
    have t2 : ¬ (4096 : Int) < (q : Int) := by omega
    have HE := Lib.hid (show s.pad q = s.raw (List.replicate (gapN s.xs.length q) 0) by unfold WS.pad; rw [if_neg hto]; rfl)
    obtain ⟨hb, -, f1, -⟩ := h.facts
    obtain ⟨o1, c1, hv, -⟩ := row_form h.row
    have l1 := h.fine.l1
    have l2 := h.fine.few
    have HGP := Lib.hid (gap_ok s.xs.length q (by omega) (by omega) (by omega) w)
    have hgl := gapN_lt (p := s.xs.length) (show 0 < q by omega)
    obtain ⟨n, hn⟩ : ∃ n, n = gapN s.xs.length q := ⟨_, rfl⟩
    rw [← hn] at HE HGP hgl
    have hmk := make_noughts n (by omega) w
    have hc1 : Chg (fun _ => False) w (w.alloc (.cells (u8s (List.replicate n 0)).toArray 5 (0, 0))) := (Chg.refl _ _).alloc _
    have hby := block_bytes (w := w.alloc (.cells (u8s (List.replicate n 0)).toArray 5 (0, 0))) (g := w.heap.size) (xs := List.replicate n 0) (e := 5) (fr := (0, 0)) (blk_alloc_at _ _ _ rfl) (fun b hb => by have := (List.mem_replicate.1 hb).2; omega) (by rw [List.length_replicate]; unfold maxLen; omega)
    have hrw := wraw_ok (h.frame hc1 fun _ _ => id) (Nat.le_trans hbase hc1.size) hby (by rw [List.length_replicate]; omega)
    rw [List.length_replicate] at hrw
    have HRW := Lib.hid hrw
    have HC1 := Lib.hid hc1
    subst hv
    have hrep : (u8s (List.replicate n 0)).toArray = Array.replicate n (Value.int .u8 0) := by simp [u8s]
    rw [hrep] at hmk HRW HC1
    clear h hto hn hc1 hby hrw l1 l2 hbase hrep
    unfold ptrV at *
    go_enter Tryd.func57, Tryd.ntmps57
    go_wp2_with fail
    refine HGP.out.mono ?_
    rintro e w2 ⟨rfl, rfl⟩
    go_wp2_with fail
    refine HRW.out.mono ?_
    rintro e w2 ⟨rfl, hg⟩
    have HG := Lib.hid hg
    clear hg HRW
    go_wp2
    go_end0
    exact ⟨rfl, by rw [HE.out]; exact WGoes.after (HC1.out.mono fun _ _ h => h.elim) (fun i hi => .inl hi) HG.out⟩

/-- What Open does to a writer, and what it tells. -/
def WS.opened (s : WS) : WS := if s.roomB 4 = true then { s with xs := s.xs ++ [0, 0, 0, 0], op := (s.xs.length : Int) :: s.op } else s.room 4
def WS.openV (s : WS) : Int := if s.roomB 4 = true then s.xs.length else 0

theorem isKey_place {p : Int} (h : I64 p) : IsKey Tryd.prog 3 (.int .i64 p) := by
  have hw : (Lit.int .i64 p).wf = true := by simp [Lit.wf, IntKind.min, IntKind.max, IntKind.signed, IntKind.bits]; unfold I64 at h; omega
  exact ⟨_, Maps.keyOf_int_mk Tryd.underlying3 hw⟩

set_option maxHeartbeats 2000000 in
set_option maxRecDepth 100000 in
theorem wopen_ok {w : World} {base b m : Nat} {v : Value} {s : WS} (h : WrIs w base b m v s) (hbase : base ≤ w.heap.size) :
    Calls Tryd.prog 42 #[ptrV b] w fun r w' => r = .returned (.int .i64 s.openV) ∧ WGoes w w' base b m v s.opened := by
  obtain ⟨hb, -, f1, -⟩ := h.facts
  obtain ⟨o1, c1, hv, -⟩ := row_form h.row
  have H := Lib.hid h
  have HBASE := Lib.hid hbase
  cases hr : s.roomB 4 with
  | false =>
    have HE := Lib.hid (show s.opened = s.room 4 by unfold WS.opened; rw [if_neg (by simp [hr])])
    have HE2 := Lib.hid (show s.openV = 0 by unfold WS.openV; rw [if_neg (by simp [hr])])
    have HR := Lib.hid (wroom_ok h 4 (by omega) (by omega))
    rw [hr] at HR
    subst hv
    clear h hbase hr
    unfold ptrV at *
    go_enter Tryd.func42, Tryd.ntmps42
    go_wp2_with fail
    refine HR.out.mono ?_
    rintro e w1 ⟨rfl, hg⟩
    have HG := Lib.hid hg
    clear hg HR
    go_wp2
    go_ret
    exact ⟨by rw [HE2.out]; rfl, by rw [HE.out]; exact HG.out⟩
  | true =>
    have HE := Lib.hid (show s.opened = { s with xs := s.xs ++ [0, 0, 0, 0], op := (s.xs.length : Int) :: s.op } by unfold WS.opened; rw [if_pos hr])
    have HE2 := Lib.hid (show s.openV = s.xs.length by unfold WS.openV; rw [if_pos hr])
    have HR := Lib.hid (wroom_yes h 4 (by omega) (by omega) hr)
    have hraw : s.raw (leB 0 4) = { s with xs := s.xs ++ [0, 0, 0, 0] } := by
      unfold WS.raw
      rw [leB_len, if_pos (show s.roomB ((4 : Nat) : Int) = true from hr)]
      rfl
    have HRAW := Lib.hid hraw
    have hfew := h.fine.few
    have hl1 := h.fine.l1
    have hpl : ∀ p ∈ s.op, p ≠ (s.xs.length : Int) := fun p hp e => by have := h.fine.places p hp; omega
    have HPL := Lib.hid hpl
    have HFEW := Lib.hid (And.intro hfew hl1)
    subst hv
    clear h hbase hr hraw hpl hfew hl1
    unfold ptrV at *
    go_enter Tryd.func42, Tryd.ntmps42
    go_wp2_with fail
    refine HR.out.mono ?_
    rintro e w1 ⟨rfl, hc1⟩
    have HW := Lib.hid (wword_ok (H.out.frame hc1 fun _ _ => id) (Nat.le_trans HBASE.out hc1.size) 0 (by omega) (by omega))
    rw [HRAW.out] at HW
    have HC1 := Lib.hid hc1
    clear hc1 HR
    unfold ptrV at *
    go_wp2_with fail
    refine HW.out.mono ?_
    rintro e w2 ⟨rfl, v2, hw2, hc2, hf2⟩
    obtain ⟨hb2, -, -, g2, -⟩ := hw2.facts
    obtain ⟨o, hup, hafter⟩ := hw2.mp.put_miss placeKeyed Tryd.underlying91 (isKey_place (p := (s.xs.length : Int)) (by have := HFEW.out; unfold I64; omega)) (fun q hq => by
      obtain ⟨p, hp, rfl⟩ := List.mem_map.1 hq
      intro e
      have : p = (s.xs.length : Int) := by simpa [opV] using e
      exact HPL.out p hp this) (.bool true)
    have hup2 := hup w2 rfl
    have HW2 := Lib.hid hw2
    have HC2 := Lib.hid hc2
    have HF2 := Lib.hid hf2
    have HAF := Lib.hid hafter
    clear hw2 hc2 hf2 hup hafter HW
    go_wp2
    go_ret
    refine ⟨by rw [HE2.out]; rfl, ?_⟩
    rw [HE.out]
    refine WGoes.after (HC1.out.mono fun _ _ h => h.elim) (fun i hi => .inl hi) (WGoes.after HC2.out HF2.out ?_)
    obtain ⟨n1, n2, n3⟩ := HW2.out.ne
    have hc : Chg (fun i => i = m) w2 (setBlock w2 m o) := (Chg.refl (fun i => i = m) w2).setBlock (fun _ => rfl) o
    refine ⟨v2, ⟨hc.blk' HW2.out.st n1, row_frame HW2.out.row hc fun g hg e => n3 (by rw [← e, hg]), HAF.out _ (blk_setBlock_eq _ _ _ HW2.out.mp.lt), ⟨HW2.out.fine.l0, HW2.out.fine.l1, HW2.out.fine.few, HW2.out.fine.byte, fun p hp => ?_, ?_⟩, HW2.out.nb, HW2.out.nm⟩, hc.mono fun i _ h => .inr (.inl h), fun i hi => .inl hi⟩
    · rcases List.mem_cons.1 hp with rfl | hp
      · simp
      · exact HW2.out.fine.places p hp
    · exact List.nodup_cons.2 ⟨fun hm => HPL.out _ hm rfl, H.out.fine.nodup⟩

/-- So many bytes are written over. -/
def overAt (xs ys : List Int) (p k : Nat) : List Int := xs.take p ++ ys.take k ++ xs.drop (p + k)
theorem overAt_zero (xs ys : List Int) (p : Nat) : overAt xs ys p 0 = xs := by simp [overAt]
theorem overAt_len {xs ys : List Int} {p k : Nat} (h : p + k ≤ xs.length) (hk : k ≤ ys.length) : (overAt xs ys p k).length = xs.length := by simp [overAt]; omega
theorem overAt_succ {xs ys : List Int} {p k : Nat} (h : p + k < xs.length) (hk : k < ys.length) : (overAt xs ys p k).set (p + k) ys[k] = overAt xs ys p (k + 1) := by
  unfold overAt
  have hl : (xs.take p ++ ys.take k).length = p + k := by simp; omega
  rw [List.set_append_right _ _ (by omega), hl, Nat.sub_self, List.drop_eq_getElem_cons h, List.set_cons_zero, List.take_succ_eq_append_getElem hk]
  simp only [List.append_assoc, List.cons_append, List.nil_append]
  rfl
theorem overAt_byte {xs ys : List Int} (hx : Bytes xs) (hy : Bytes ys) (p k : Nat) : Bytes (overAt xs ys p k) := fun b hb => by
  rcases List.mem_append.1 hb with hb | hb
  · rcases List.mem_append.1 hb with hb | hb
    · exact hx b (List.mem_of_mem_take hb)
    · exact hy b (List.mem_of_mem_take hb)
  · exact hx b (List.mem_of_mem_drop hb)
/-- What Shut does to a writer. -/
def WS.shut (s : WS) (p : Int) : WS := if s.bad ≠ 0 then s else if p ∈ s.op then { s with op := s.op.erase p, xs := overAt s.xs (leB ((s.xs.length : Int) - p - 4) 4) p.toNat 4 } else s.fail 10

set_option maxHeartbeats 4000000 in
set_option maxRecDepth 100000 in
theorem wshut_ok {w : World} {base b m : Nat} {v : Value} {s : WS} (h : WrIs w base b m v s) (p : Int) (hp : I64 p) :
    Calls Tryd.prog 46 #[ptrV b, .int .i64 p] w fun r w' => r = .returned (.tuple #[]) ∧ WGoes w w' base b m v (s.shut p) := by
  obtain ⟨hb, -, f1, f2, f3, -⟩ := h.facts
  have H := Lib.hid h
  by_cases hbad : s.bad = 0
  · have hb1 : (s.bad != 0) = false := by simp [hbad]
    by_cases hin : p ∈ s.op
    · have hpl := h.fine.places p hin
      obtain ⟨q, rfl⟩ := Int.eq_ofNat_of_zero_le hpl.1
      have hq4 : q + 4 ≤ s.xs.length := by omega
      have hl1 := h.fine.l1
      have hl2 := h.fine.few
      obtain ⟨n, hn⟩ : ∃ n : Int, n = (s.xs.length : Int) - (q : Int) - 4 := ⟨_, rfl⟩
      have hn0 : 0 ≤ n := by omega
      have hn1 : n ≤ 67108864 := by omega
      have HE := Lib.hid (show s.shut q = { s with op := s.op.erase q, xs := overAt s.xs (leB n 4) q 4 } by unfold WS.shut; rw [if_neg (by simpa using hbad), if_pos hin, hn]; rfl)
      have hlk2 := h.mp.look_hit placeKeyed Tryd.underlying91 (isKey_place hp) (v := .bool true) (List.mem_map.2 ⟨_, hin, rfl⟩) false w rfl
      obtain ⟨o, hup, haf⟩ := h.mp.drop_hit placeKeyed Tryd.underlying91 (isKey_place hp) (G := (s.op.erase q).map opV) (old := .bool true) ((List.perm_cons_erase hin).map opV) 0
      have hup2 := hup w rfl
      obtain ⟨m1, m2, m3⟩ := h.ne
      have hc : Chg (fun i => i = m) w (setBlock w m o) := (Chg.refl (fun i => i = m) w).setBlock (fun _ => rfl) o
      have hW1 : WrIs (setBlock w m o) base b m v { s with op := s.op.erase q } := ⟨hc.blk' h.st m1, row_frame h.row hc fun g hg e => m3 (by rw [← e, hg]), haf _ (blk_setBlock_eq _ _ _ h.mp.lt), ⟨h.fine.l0, h.fine.l1, h.fine.few, h.fine.byte, fun x hx => h.fine.places x (List.mem_of_mem_erase hx), h.fine.nodup.erase _⟩, h.nb, h.nm⟩
      obtain ⟨g, cap, cur, hv, hgb, hg2, hg3, -⟩ := row_at h.row (by omega)
      unfold maxLen at hg3
      subst hv
      obtain ⟨-, -, f1', -⟩ := hW1.facts
      have HW1 := Lib.hid hW1
      have HC1 := Lib.hid (show Chg (WFoot b m (.slice (some ⟨g, 0, none⟩) s.xs.length cap)) w (setBlock w m o) from hc.mono fun i _ h => .inr (.inl h))
      have HNN := Lib.hid hn
      clear h hin hbad hup haf hpl hc hW1 hn m2 m3
      unfold ptrV at *
      go_enter Tryd.func46, Tryd.ntmps46
      go_upto_region 2 with (fail)
      rw [← HNN.out]
      obtain ⟨w1, hw1⟩ : ∃ w1, w1 = setBlock w m o := ⟨_, rfl⟩
      rw [← hw1] at HW1 HC1 ⊢
      clear hw1 hup2 hlk2 f1' f1 f2 f3
      go_wp2_with fail
      go_loopw [19] (fun s19 wr => ∃ k : Nat, s19 = .int .i64 k ∧ k ≤ 4 ∧ WrIs wr base b m (.slice (some ⟨g, 0, none⟩) s.xs.length cap) { s with op := s.op.erase q, xs := overAt s.xs (leB n 4) q k } ∧ Chg (WFoot b m (.slice (some ⟨g, 0, none⟩) s.xs.length cap)) w wr) (fun i _ => 4 - (intOf i).toNat)
      case atStart => exact ⟨0, rfl, by omega, by rw [overAt_zero]; exact HW1.out, HC1.out⟩
      case round =>
        obtain ⟨k, rfl, hk, hw, hch⟩ := hrel
        have HWK := Lib.hid hw
        have HCK := Lib.hid hch
        by_cases hlt : k < 4
        · have hlt' : (k : Int) < 4 := by omega
          obtain ⟨hb', -, f1, -⟩ := hw.facts
          have hlen : (overAt s.xs (leB n 4) q k).length = s.xs.length := overAt_len (by omega) (by rw [leB_len]; omega)
          have hrow := hw.row
          dsimp only at hrow f1
          rw [hlen] at hrow
          obtain ⟨g', cap', cur', hv', -, -, -, hblk, -, hat⟩ := row_at hrow (by omega)
          simp only [Value.slice.injEq, Option.some.injEq, Addr.mk.injEq, true_and, and_true] at hv'
          obtain ⟨rfl, rfl⟩ := hv'
          have hql : q + k < (overAt s.xs (leB n 4) q k).length := by rw [hlen]; omega
          have hcell := hat (q + k) (.int .u8 (overAt s.xs (leB n 4) q k)[q + k]) (by rw [List.getElem?_map, List.getElem?_eq_getElem hql]; rfl)
          have hfz := frozen_of_blk hblk (q + k)
          have hle : (leB n 4)[k]? = some (n / 256 ^ k % 256) := by unfold leB; rw [List.getElem?_map, List.getElem?_range hlt]; rfl
          obtain ⟨hkl, hkv⟩ := List.getElem?_eq_some_iff.1 hle
          have HOS := Lib.hid (overAt_succ (xs := s.xs) (ys := leB n 4) (p := q) (k := k) (by omega) hkl)
          rw [hkv] at HOS
          have HRS := Lib.hid (row_set (v := n / 256 ^ k % 256) hrow (show q + k < s.xs.length by omega))
          rw [HOS.out] at HRS
          have HB := Lib.hid (overAt_byte H.out.fine.byte (leB_byte n 4) q (k + 1))
          have HL2 := Lib.hid (overAt_len (xs := s.xs) (ys := leB n 4) (p := q) (k := k + 1) (by omega) (by rw [leB_len]; omega))
          have e1 : IntKind.i64.wrap ((q : Int) + (k : Int)) = (q : Int) + (k : Int) := by rw [IntKind.wrap_i64]; omega
          have e2 : IntKind.i64.wrap (8 * (k : Int)) = 8 * (k : Int) := by rw [IntKind.wrap_i64]; omega
          have e3 : (8 * (k : Int)).toNat = 8 * k := by omega
          have e4 : 0 ≤ 8 * (k : Int) := by omega
          have e5 : IntKind.u8.wrap (n / 2 ^ (8 * k)) = n / 256 ^ k % 256 := by rw [IntKind.wrap_u8, pow8]
          have e6 : (q : Int) + (k : Int) < (s.xs.length : Int) := by omega
          have e7 : 0 ≤ (q : Int) + (k : Int) := by omega
          have e8 : ((q : Int) + (k : Int)).toNat = q + k := by omega
          generalize (overAt s.xs (leB n 4) q k)[q + k] = y0 at *
          generalize n / 256 ^ k % 256 = y at *
          clear hw hch hlen hrow hblk hat hql hle hkl hkv
          go_wp2_with fail
          have hE : WrIs (wr.setCell ⟨g, q + k, none⟩ (.int .u8 y)) base b m (.slice (some ⟨g, 0, none⟩) s.xs.length cap) { s with op := s.op.erase q, xs := overAt s.xs (leB n 4) q (k + 1) } := by
            have nm := HWK.out.ne
            have hc : Chg (fun i => i = g) wr (wr.setCell ⟨g, q + k, none⟩ (.int .u8 y)) := Chg.setCell (S := fun i => i = g) (Chg.refl _ _) (p := ⟨g, q + k, none⟩) (fun _ => rfl) _
            have hbg : b ≠ g := fun e => nm.2.1 (by rw [e]; rfl)
            have hmg : m ≠ g := fun e => nm.2.2 (by rw [e]; rfl)
            refine ⟨hc.blk' HWK.out.st hbg, by dsimp only; rw [HL2.out]; exact HRS.out, HWK.out.mp.frame hc hmg, ⟨HWK.out.fine.l0, HWK.out.fine.l1, by dsimp only; rw [HL2.out]; exact H.out.fine.few, HB.out, fun x hx => ?_, HWK.out.fine.nodup⟩, HWK.out.nb, HWK.out.nm⟩
            dsimp only
            rw [HL2.out]
            exact H.out.fine.places x (List.mem_of_mem_erase hx)
          have HEE := Lib.hid hE
          clear hE
          go_region
          all_goals
            go_wp2
            go_roundw
            case rel => exact ⟨k + 1, by go_num, by omega, HEE.out.frame (Chg.refl (fun _ => False) _).drew fun _ _ => id, (HCK.out.trans (((Chg.refl (fun i => i = g) wr).setCell (p := ⟨g, q + k, none⟩) (fun _ => rfl) _).drew) fun i hi h => .inr (.inr (by rw [h]; rfl)))⟩
            case measure => simp [intOf]; omega
        · have hke : k = 4 := by omega
          subst hke
          clear hw hch
          go_wp2
          go_end0
          exact ⟨rfl, _, by rw [HE.out]; exact HWK.out, HCK.out, fun i hi => .inl hi⟩
    · have HE := Lib.hid (show s.shut p = s.fail 10 by unfold WS.shut; rw [if_neg (by simpa using hbad), if_neg hin])
      have HF := Lib.hid (wfail_ok h 10)
      have hlk := h.mp.look_miss placeKeyed Tryd.underlying91 (z := .bool false) (fun w => by kernel_rfl) (isKey_place hp) (fun q hq e => by
        obtain ⟨x, hx, rfl⟩ := List.mem_map.1 hq
        have : x = p := by simpa [opV] using e
        subst this
        exact hin hx) false
      have hlk2 := hlk w rfl
      clear h hlk hin hbad
      unfold ptrV at *
      go_enter Tryd.func46, Tryd.ntmps46
      go_wp2_with fail
      refine HF.out.mono ?_
      rintro e w1 ⟨rfl, hg⟩
      have HG := Lib.hid hg
      clear hg HF
      go_wp2
      go_end0
      exact ⟨rfl, by rw [HE.out]; exact HG.out⟩
  · have hb1 : (s.bad != 0) = true := by simp [hbad]
    have HE := Lib.hid (show s.shut p = s by unfold WS.shut; rw [if_pos hbad])
    clear h hbad
    unfold ptrV at *
    go_enter Tryd.func46, Tryd.ntmps46
    go_wp2
    go_end0
    exact ⟨rfl, by rw [HE.out]; exact H.out.stays (Chg.refl _ _)⟩
end Go.Proofs.YtfihpiommicdbaaDoor
