/- ArenaDoes: New of any region, and every call, in every order, answer as the document says, while others write into the memory; at the end the memory has just what it must. No condition. -/
import Derived.Test.YtenbkdmaiooldaaArnN
import Derived.Test.YtenbkdmaiooldaaArnP
import Derived.Test.YtenbkdmaiooldaaArnO
import Derived.Test.YtenbkdmaiooldaaArnFar
namespace Go.Proofs.Ytenbkdmaiooldaa
open Go.RowKit Go.Cl
set_option linter.unusedVariables false
set_option linter.unusedSimpArgs false
attribute [local go_sem] lt_add_one' blk_alloc_past blk_alloc_at blk_drew blk_setCell_ne

theorem RefIs.lower {w : World} {base base' b R : Nat} {qs : List (Option Nat)} {f : Nat → Int} (h : RefIs w base b R qs f) (hb : base' ≤ base) : RefIs w base' b R qs f :=
  ⟨h.st, h.row, fun k g hg => ⟨(h.pg k g hg).1, Nat.le_trans hb (h.pg k g hg).2⟩, h.zero, h.one, h.byte, h.few, Nat.le_trans hb h.nb, Nat.le_trans hb h.nr⟩
theorem StG.arn {Q : List Thing → Prop} {bs : Nat} {w : World} {X b n mp a r base pages t : Nat} {p q : Option (Nat × Nat)} {L : List Thing} (h : StG (ArL a r b n base pages t) Q bs w X b n mp p q L) : ArnIs w a b base pages t false := by
  obtain ⟨m, pg, R, qs, f, Lp, Lq, h1, h2, h3, h4, h5, h6⟩ := h
  obtain rfl : Lp = _ := h1
  exact h6.all (blkT a (arO b base pages t false)) (by simp)

/-- Two new memories, a world of them. -/
theorem st_new {w w1 w2 w3 : World} {b m nb R N X : Nat} (hm : MemIs w1 b m [] N (fun _ => 0)) (hb : w.heap.size ≤ b) (hm2 : w.heap.size ≤ m) (hc1 : Chg (fun _ => False) w w1) (hr : RefIs w2 w1.heap.size nb R (List.replicate N none) (fun _ => 0)) (hc2 : Chg (fun _ => False) w1 w2) (hx : blk w3 X = some (wO b nb none none)) (hX : w2.heap.size ≤ X) (hc3 : Chg (fun _ => False) w2 w3) (h1 : 1 ≤ N) (h2 : N ≤ 4096) : St w.heap.size w3 X b nb N none none [] := by
  have s1 := (Go.Cl.Sep.nil w.heap.size w).push (t' := memT b m [] N (fun _ => 0)) (Nat.le_refl _) hc1 hm (fun i hi => by
    rcases hi with h | h | h
    · omega
    · omega
    · simp at h)
  have s2 := Go.Cl.Sep.pushAt (t' := refT w.heap.size nb R (List.replicate N none) (fun _ => 0)) [memT b m [] N (fun _ => 0)] (B := []) s1 hc1.size hc2 (hr.lower hc1.size) (fun i hi => (hr.foot hi).1)
  have s3 := Go.Cl.Sep.pushAt (t' := blkT X (wO b nb none none)) [memT b m [] N (fun _ => 0), refT w.heap.size nb R (List.replicate N none) (fun _ => 0)] (B := []) s2 (Nat.le_trans hc1.size hc2.size) hc3 hx (fun i hi => by
    have hi : i = X := hi
    omega)
  exact ⟨m, [], R, List.replicate N none, fun _ => 0, [], [], rfl, rfl, by simp, h1, h2, s3⟩

set_option maxHeartbeats 8000000 in
set_option maxRecDepth 100000 in
theorem does_walk (w : World) (a0 : Int) (w0 : (Lit.int .i64 a0).wf = true) (a1 : Int) (w1 : (Lit.int .u32 a1).wf = true) (a2 : Int) (w2 : (Lit.int .i64 a2).wf = true) {v3 : Value} (hv3 : ∃ ps, OpsAre w v3 ps) :
    Calls Try.prog 6 #[.int .i64 a0, .int .u32 a1, .int .i64 a2, v3] w fun e w' => e = .returned (.bool true) ∧ Below w.heap.size w w' := by
  have h0 : I64 a0 := by simp [Lit.wf, IntKind.min, IntKind.max, IntKind.signed, IntKind.bits] at w0; unfold I64; omega
  have h2 : I64 a2 := by simp [Lit.wf, IntKind.min, IntKind.max, IntKind.signed, IntKind.bits] at w2; unfold I64; omega
  have hv0 : 0 ≤ a1 := by simp [Lit.wf, IntKind.min, IntKind.max, IntKind.signed, IntKind.bits] at w1; omega
  have hv1 : a1 < 4294967296 := by simp [Lit.wf, IntKind.min, IntKind.max, IntKind.signed, IntKind.bits] at w1; omega
  obtain ⟨base, rfl⟩ := Int.eq_ofNat_of_zero_le hv0
  obtain ⟨ps, oa, cap, rfl, hlc, hcap, hps⟩ := hv3
  clear w0 w1 w2 hv0
  obtain ⟨P, hP, p0⟩ := pick6_nat a0 16 h0 (by omega) (by omega)
  have P0 := Lib.hid p0
  have HB := Lib.hid (show base < 4294967296 by omega)
  have HM := Lib.hid h2
  have HPS := Lib.hid hps
  have hlm : ps.length ≤ 9223372036854775807 := by unfold maxLen at hcap; omega
  obtain ⟨N, hN⟩ : ∃ N : Nat, N = 1 + P := ⟨_, rfl⟩
  have HN := Lib.hid (show 1 ≤ N ∧ N ≤ 16 by omega)
  have NW := Lib.hid (new_ok N (by omega) (by omega))
  have NR := Lib.hid (fun (wy : World) => rNew_ok (w := wy) N (by omega) (by omega))
  rw [show (N : Int) = 1 + (P : Int) by omega] at NW NR
  clear p0 hps hcap hv1 h2 h0 hN
  go_enter Try.func6, Try.ntmps6
  go_wp2_with fail
  refine (P0.out _).mono ?_
  rintro e wx ⟨rfl, rfl⟩
  go_wp2_with fail
  refine (NW.out _).mono ?_
  rintro e wn ⟨b, m, rfl, hM, hb, hm, g1⟩
  have BB := Lib.hid (And.intro hb hm)
  have HM1 := Lib.hid hM
  have G1 := Lib.hid g1
  clear hb hm hM g1
  unfold ptrV
  go_wp2_with fail
  refine (NR.out _).mono ?_
  rintro e w2 ⟨nb, R, rfl, hR, g2⟩
  have HR := Lib.hid hR
  have G2 := Lib.hid g2
  clear hR g2
  go_wp2_with fail
  refine (num_ok _ 0).mono ?_
  rintro e w3 ⟨rfl, rfl⟩
  go_upto_region 7 with (fail)
  obtain ⟨wx, hwx⟩ : ∃ wx, wx = w2.alloc (.cells #[.pointer (some ⟨b, 0, none⟩), .pointer (some ⟨nb, 0, none⟩), .pointer none, .pointer none, .pointer none, .pointer none] 50 (0, 0)) := ⟨_, rfl⟩
  obtain ⟨X, hX⟩ : ∃ X, X = w2.heap.size := ⟨_, rfl⟩
  have g3 : Chg (fun _ => False) w2 wx := by rw [hwx]; exact (Chg.refl _ _).alloc _
  have hx : blk wx X = some (wO b nb none none) := by rw [hwx, hX]; exact blk_alloc_at _ _ _ rfl
  have hS := st_new HM1.out BB.out.1 BB.out.2 G1.out HR.out G2.out hx (by omega) g3 HN.out.1 (by have := HN.out; omega)
  have C0 := Lib.hid (show Chg (fun i => w.heap.size ≤ i) w wx from ((G1.out.trans G2.out fun _ _ => id).trans g3 fun _ _ => id).mono fun (i : Nat) _ (h : False) => h.elim)
  have hS' := make_ok (base := 0) (pages := 1) hS C0.out.size (by omega) (by have := HN.out; unfold arenaOk; omega)
  have HS := Lib.hid hS'
  rw [← hwx, ← hX]
  clear hwx hX hx g3 hS hS'
  go_wp2_with fail
  refine HS.out.mono ?_
  rintro e w4 ⟨rfl, ⟨a, r, hS4⟩, hc4⟩
  have S4 := Lib.hid hS4
  have C4 := Lib.hid (C0.out.trans hc4 fun _ _ h => h)
  have H4 := Lib.hid (step_4 hS4 C4.out.size 4 0 (by unfold I64; omega) (by unfold I64; omega) (by decide) 5 0 (by omega) (by omega) 9 (by omega))
  have hxx := hS4.x
  unfold wO ptrO at hxx
  have x2 := cell_of_blk hxx 2
  clear hS4 hc4 HS hxx
  go_wp2_with fail
  refine H4.out.mono ?_
  rintro e w5 ⟨rfl, hS5, hc5⟩
  have S5 := Lib.hid hS5
  have C5 := Lib.hid (C4.out.trans hc5 fun _ _ h => h)
  have H5 := Lib.hid (step_first hS5 (pair_new (mp := N) (by have := HN.out; omega) (by omega) (by have := HN.out; unfold arenaOk; omega)) (by omega) C5.out.size 0 0 (by unfold I64; omega) (by unfold I64; omega) (by decide) 0 0 (by omega) (by omega) 0 (by omega))
  clear x2 hS5 hc5 H4
  go_wp2_with fail
  refine H5.out.mono ?_
  rintro e w6 ⟨rfl, hS6, hc6⟩
  have S6 := Lib.hid hS6
  have C6 := Lib.hid (C5.out.trans hc6 fun _ _ h => h)
  have T6 := Lib.hid (hS6.mono (fun l hl => ArL.pr hl (show PairOk N 0 1 1 by have := HN.out; exact ⟨by omega, by omega, by omega, by omega, by omega⟩)) fun _ h => h)
  have H6 := Lib.hid (T6.out.told (addr := 0) (by omega))
  clear hS6 hc6 H5
  go_wp2_with fail
  refine H6.out.mono ?_
  rintro e w7 ⟨rfl, hc7⟩
  have S7 := Lib.hid (S6.out.still hc7)
  have T7 := Lib.hid (T6.out.still hc7)
  have C7 := Lib.hid (C6.out.trans hc7 fun _ _ h => h.elim)
  have H7 := Lib.hid (arn_taken S7.out.arn)
  have hxx := S7.out.x
  unfold wO ptrO at hxx
  have x2 := cell_of_blk hxx 2
  clear hc7 H6 hxx
  go_wp2_with fail
  refine H7.out.mono ?_
  rintro e w8 ⟨rfl, rfl⟩
  have H8 := Lib.hid T7.out.same
  clear x2 H7
  go_wp2_with fail
  refine H8.out.mono ?_
  rintro e w8 ⟨rfl, hc8⟩
  have T8 := Lib.hid (T7.out.still hc8)
  have C8 := Lib.hid (C7.out.trans hc8 fun _ _ h => h.elim)
  have H9 := Lib.hid (T8.out.make C8.out.size HB.out HM.out)
  clear hc8 H8
  go_wp2_with fail
  refine H9.out.mono ?_
  rintro e w9 ⟨rfl, ⟨p, q, hS9⟩, hc9⟩
  have S9 := Lib.hid hS9
  have C9 := Lib.hid (C8.out.trans hc9 fun _ _ h => h)
  clear hS9 hc9 H9
  go_wp2
  go_loopg [15, 17] ps.length (fun g s15 s17 wr => ∃ i : Nat, i + g = ps.length ∧ s15 = .bool true ∧ s17 = .int .i64 i ∧ (∃ p q, St w.heap.size wr X b nb N (some p) q []) ∧ Chg (fun i => w.heap.size ≤ i) w wr)
  case atStart => exact ⟨0, by omega, rfl, rfl, ⟨p, q, S9.out⟩, C9.out⟩
  case round =>
    obtain ⟨i, hig, rfl, rfl, ⟨p', q', hS⟩, hC⟩ := hrel
    have HIG := Lib.hid hig
    have HS := Lib.hid hS
    have HC := Lib.hid hC
    clear hS hC
    cases gk with
    | zero =>
      have hin : ¬ ((i : Int) < ps.length) := by omega
      have H1 := Lib.hid HS.out.same
      clear hig
      go_wp2_with fail
      refine H1.out.mono ?_
      rintro e w10 ⟨rfl, hc10⟩
      have C10 := Lib.hid (HC.out.trans hc10 fun _ _ h => h.elim)
      clear hc10
      go_wp2_with fail
      refine (arn_new_nil _ 0 0).mono ?_
      rintro e w11 ⟨rfl, rfl⟩
      go_wp2
      go_ret
      exact ⟨rfl, C10.out.below (Nat.le_refl _) (fun i h1 h2 => by omega)⟩
    | succ g =>
      have q1 : i < ps.length := by omega
      have q1' : (i : Int) < (ps.length : Int) := by omega
      obtain ⟨a', rfl, e0, e1, e2, e3, e4, e5, hok⟩ := HPS.out i _ (List.getElem?_eq_getElem q1)
      generalize ps[i] = p at *
      obtain ⟨kd, pg, old, at_, ba, bt⟩ := p
      obtain ⟨k0, k1, k2, k3, k4⟩ := hok
      dsimp only at e0 e1 e2 e3 e4 e5 k0 k1 k2 k3 k4
      obtain ⟨at_, rfl⟩ := Int.eq_ofNat_of_zero_le k2.1
      obtain ⟨ba, rfl⟩ := Int.eq_ofNat_of_zero_le k3.1
      obtain ⟨ga, oo, sp⟩ := a'
      obtain ⟨a2, ha2, f0, -⟩ := HPS.out 0 _ (List.getElem?_eq_getElem (show 0 < ps.length by omega))
      have ha2' := Option.some.inj ha2
      rw [← ha2'] at f0
      have hsp : sp = none := by simpa [Addr.add] using World.cell?_spot f0
      subst hsp
      clear f0 ha2' ha2
      rw [addr_add] at e0 e1 e2 e3 e4 e5
      have fold : ∀ (j : Nat), j < w.heap.size → ¬ (w.heap.size ≤ j) := fun j h1 h2 => by omega
      have d0 := cell_frame HC.out fold e0
      have d1 := cell_frame HC.out fold e1
      have d2 := cell_frame HC.out fold e2
      have d3 := cell_frame HC.out fold e3
      have d4 := cell_frame HC.out fold e4
      have d5 := cell_frame HC.out fold e5
      have a5 : oo + (i * 6 + 1) = oo + i * 6 + 1 := by omega
      have a6 : oo + (i * 6 + 2) = oo + i * 6 + 2 := by omega
      have a7 : oo + (i * 6 + 3) = oo + i * 6 + 3 := by omega
      have a8 : oo + (i * 6 + 4) = oo + i * 6 + 4 := by omega
      have a9 : oo + (i * 6 + 5) = oo + i * 6 + 5 := by omega
      rw [a5] at d1
      rw [a6] at d2
      rw [a7] at d3
      rw [a8] at d4
      rw [a9] at d5
      have H1 := Lib.hid (step_any HS.out HC.out.size kd pg k0 k1 old at_ ba (by omega) (by omega) bt k4)
      clear hig q1 e0 e1 e2 e3 e4 e5 a5 a6 a7 a8 a9 k0 k1 k2 k3 k4 fold
      go_wp2_with fail
      refine H1.out.mono ?_
      rintro e w10 ⟨rfl, ⟨p2, q2, hs10⟩, hc10⟩
      have S10 := Lib.hid hs10
      have C10 := Lib.hid (HC.out.trans hc10 fun _ _ h => h)
      clear hs10 hc10
      go_wp2
      go_roundg g
      case measure => omega
      case rel => exact ⟨i + 1, by have := HIG.out; omega, rfl, by go_num, ⟨p2, q2, S10.out⟩, C10.out⟩
end Go.Proofs.Ytenbkdmaiooldaa
