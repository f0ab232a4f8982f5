/- WireBack: contract of the law's 'readsBack', of parts too. No condition. (Printed by genY.py.) -/
import Derived.Test.YtfihpiommicdbaaDoorWirX
import Derived.Test.YtfihpiommicdbaaDoorWirW
namespace Go.Proofs.YtfihpiommicdbaaDoor
open Go.RowKit Go.Cl
set_option linter.unusedVariables false
set_option linter.unusedSimpArgs false
attribute [local go_sem] lt_add_one' blk_alloc_past blk_alloc_at blk_drew blk_setCell_ne

/-- The contract of 'readsBack' at a depth. -/
def ReadsAt (w0 : World) (d : Nat) (f : List OpT → List Int × Nat) : Prop :=
  ∀ {w : World} {base b g o c : Nat} {v : Value} {s : RS} {p : OpT} {l : List OpT} {rest : List Int}, l.length + 1 ≤ c → c ≤ maxLen → OpsAt w0 w g o (p :: l) → (∀ q ∈ p :: l, OpFit q) → RdIs w base b v s → base ≤ w.heap.size → Chg (fun _ => False) w0 w → s.bad = 0 → w0.heap.size ≤ base → s.xs.length ≤ 1000000 → s.xs.drop s.pos = (f (p :: l)).1 ++ rest →
    Calls Tryd.prog 41 #[.pointer (some ⟨b, 0, none⟩), .slice (some ⟨g, o, none⟩) (l.length + 1) c, .int .i64 d] w fun e w' => e = .returned (.int .i64 (f (p :: l)).2) ∧ RGoes w w' base b v (s.on (f (p :: l)).1.length)

theorem ahead_part {s : RS} {ys rest : List Int} (hl : s.xs.length ≤ 1000000) (hle : s.pos ≤ s.xs.length) (h : s.xs.drop s.pos = (leB ys.length 4 ++ ys) ++ rest) (hb : s.bad = 0) : s.partS = s.on (4 + ys.length) ∧ s.partR = RS.zero ys ∧ ys.length ≤ s.xs.length := by
  rw [List.append_assoc] at h
  obtain ⟨h1, h2, h3, h4⟩ := ahead_num hle h hb
  obtain ⟨g1, g2, -, g4⟩ := ahead (s := s.on 4) (ys := ys) (rest := rest) (by show s.pos + 4 ≤ s.xs.length; exact h4) h3 hb
  have hy : ys.length ≤ s.xs.length := by
    have : (s.on 4).pos + ys.length ≤ s.xs.length := g4
    omega
  have e1 : s.partN = ys.length := by
    unfold RS.partN
    rw [h2, show (256 : Int) ^ 4 = 4294967296 from by decide]
    omega
  have e2 : s.partS = s.on (4 + ys.length) := by
    unfold RS.partS
    rw [if_pos hb, e1, h1, g1, on_on]
    unfold RS.back
    rw [if_pos (show (s.on (4 + ys.length)).bad = 0 from hb)]
  refine ⟨e2, ?_, hy⟩
  unfold RS.partR
  rw [if_pos (by rw [e2]; exact hb), e1, h1, g2]

theorem zero_ahead {T bs r : List Int} (h : bs ++ r = T) : ((RS.zero T).on bs.length).xs.drop ((RS.zero T).on bs.length).pos = r := by
  show T.drop (0 + bs.length) = r
  rw [Nat.zero_add, ← h]
  simp
theorem zero_end {T : List Int} : ((RS.zero T).on T.length).end = (RS.zero T).on T.length := by
  unfold RS.end RS.left
  rw [if_pos (show ((RS.zero T).on T.length).bad = 0 from rfl), if_neg]
  show ¬ 0 < (T.length : Int) - (0 + T.length : Nat)
  omega

set_option maxHeartbeats 8000000 in
set_option maxRecDepth 100000 in
theorem reads_part {w0 : World} {d : Nat} (hd3 : d ≤ 3) {f : List OpT → List Int × Nat} (hfl : ∀ l, (f l).2 ≤ l.length) (hfp : 0 < d → ∀ p l, 0 < (f (p :: l)).2) (IH : 0 < d → ReadsAt w0 (d - 1) f) {w : World} {base b g o c : Nat} {v : Value} {s : RS} {p : OpT} {l : List OpT} {rest : List Int} (hlc : l.length + 1 ≤ c) (hcm : c ≤ maxLen) (hops : OpsAt w0 w g o (p :: l)) (hf : ∀ q ∈ p :: l, OpFit q) (h : RdIs w base b v s) (hbs : base ≤ w.heap.size) (hch : Chg (fun _ => False) w0 w) (hbad : s.bad = 0) (hwb : w0.heap.size ≤ base) (hxl : s.xs.length ≤ 1000000) (h8 : p.1 = 8) (hah : s.xs.drop s.pos = (encPart (inner d f (pickI p.2.2.1 5).toNat l)).1 ++ rest) :
    Calls Tryd.prog 41 #[.pointer (some ⟨b, 0, none⟩), .slice (some ⟨g, o, none⟩) (l.length + 1) c, .int .i64 d] w fun e w' => e = .returned (.int .i64 (encPart (inner d f (pickI p.2.2.1 5).toNat l)).2) ∧ RGoes w w' base b v (s.on (encPart (inner d f (pickI p.2.2.1 5).toNat l)).1.length) := by
  have HOPS := Lib.hid hops
  obtain ⟨cur, hcur, hat⟩ := hops
  obtain ⟨bv, e0, e1, e2, e3, e4, hb, hok⟩ := hat 0 p rfl
  rw [Nat.zero_mul, Nat.add_zero] at e0 e1 e2 e3 e4
  have HF := Lib.hid hf
  obtain ⟨y, n, K, B, S⟩ := p
  obtain ⟨k0, k1, k2, k3, k4⟩ := hok
  dsimp only at e0 e1 e2 e3 e4 k0 k1 k2 k3 k4 h8 hah hb
  subst h8
  have d0 : w.cell? ⟨g, o, none⟩ = some (.int .i64 8) := (cell_of_blk hcur _).trans e0
  have d1 : w.cell? ⟨g, o + 1, none⟩ = some (.int .u64 n) := (cell_of_blk hcur _).trans e1
  have d2 : w.cell? ⟨g, o + 2, none⟩ = some (.int .i64 K) := (cell_of_blk hcur _).trans e2
  have d3 : w.cell? ⟨g, o + 3, none⟩ = some bv := (cell_of_blk hcur _).trans e3
  have d4 : w.cell? ⟨g, o + 4, none⟩ = some (.string S) := (cell_of_blk hcur _).trans e4
  obtain ⟨od, cd, rfl, -⟩ := hb
  have PB := pickI_bd K 5 (by omega)
  have HPK := Lib.hid (fun wy => pick_any K 5 k3 (by omega) (by omega) wy)
  obtain ⟨C, hC⟩ : ∃ C : Nat, (C : Int) = pickI K 5 := ⟨(pickI K 5).toNat, by omega⟩
  rw [← hC] at PB HPK hah ⊢
  rw [Int.toNat_natCast] at hah ⊢
  have hC5 : C < 5 := by omega
  obtain ⟨T, hT⟩ : ∃ T, T = inner d f C l := ⟨_, rfl⟩
  rw [← hT] at hah ⊢
  obtain ⟨pa1, pa2, pa3⟩ := ahead_part hxl h.le (show s.xs.drop s.pos = (leB T.1.length 4 ++ T.1) ++ rest from hah) hbad
  have hEN : (encPart T).1.length = 4 + T.1.length := by
    simp only [encPart, List.length_append, leB_len]
  have hng : g ≠ b := fun e => by
    subst e
    rw [h.st] at hcur
    simp only [Option.some.injEq, Obj.cells.injEq] at hcur
    exact absurd hcur.2.1 (by decide)
  rw [hEN]
  have HT := Lib.hid hT
  have HPA := Lib.hid (And.intro pa1 (And.intro pa2 pa3))
  have HIH := Lib.hid (@IH)
  have HFL := Lib.hid hfl
  have HFP := Lib.hid hfp
  have H := Lib.hid h
  have HCH := Lib.hid hch
  have HBAD := Lib.hid hbad
  have HXL := Lib.hid hxl
  have HBS := Lib.hid hbs
  have HWB := Lib.hid hwb
  have HNG := Lib.hid hng
  have HGS := Lib.hid (blk_lt hcur)
  unfold maxLen at hcm
  clear IH hfl hfp h hch hbad hat hcur e0 e1 e2 e3 e4 hah k0 k1 k2 k3 k4 hf hC PB hT pa1 pa2 pa3 hEN hxl hbs hwb hng
  go_enter Tryd.func41, Tryd.ntmps41
  go_upto_block 0 with (fail)
  obtain ⟨wy, hwy⟩ : ∃ wy, wy = w.alloc (.cells #[.int .i64 8, .int .u64 n, .int .i64 K, .slice od B.length cd, .string S] 50 (0, 0)) := ⟨_, rfl⟩
  obtain ⟨P, hP⟩ : ∃ P, P = w.heap.size := ⟨_, rfl⟩
  rw [← hwy, ← hP]
  have hpb : blk wy P = some (.cells #[.int .i64 8, .int .u64 n, .int .i64 K, .slice od B.length cd, .string S] 50 (0, 0)) := by rw [hwy, hP]; exact blk_alloc_at _ _ _ rfl
  have hcy : Chg (fun _ => False) w wy := by rw [hwy]; exact (Chg.refl _ _).alloc _
  have HCY := Lib.hid hcy
  have HPB := Lib.hid hpb
  have HNB := Lib.hid (show P ≠ b by rw [hP]; have := blk_lt H.out.st; omega)
  have HRP := Lib.hid (rpart_ok (H.out.frame hcy fun _ _ => id) (Nat.le_trans HBS.out hcy.size))
  rw [HPA.out.1, HPA.out.2.1] at HRP
  clear hwy hP hpb hcy d0 d1 d2 d3 d4
  go_wp2_with fail
  refine HRP.out.mono ?_
  rintro e w1 ⟨b1, v1, rfl, hr1, hg⟩
  have HW1 := Lib.hid ((HCY.out.mono fun _ _ (h : False) => h.elim).trans hg.2 fun i _ (h : i = b) => h)
  have HR1 := Lib.hid hr1
  have HG := Lib.hid hg.1
  have HSZ := Lib.hid (show wy.heap.size ≤ b1 from hr1.nb)
  have HWS := Lib.hid (Nat.le_trans hg.2.size (Nat.le_refl w1.heap.size))
  have HPB1 := Lib.hid (show blk w1 P = some (.cells #[.int .i64 8, .int .u64 n, .int .i64 K, .slice od B.length cd, .string S] 50 (0, 0)) from other_blk hg.2 HPB.out HNB.out)
  have HPS := Lib.hid (show P ≠ b1 by have h1 := blk_lt HPB.out; have h2 := HSZ.out; omega)
  clear hg hr1 HRP
  go_wp2_with fail
  go_loopw [16, 17] (fun s9 s10 wr => ∃ (k n1 : Nat) (bs : List Int), k ≤ C ∧ s10 = .int .i64 k ∧ s9 = .int .i64 (n1 + 1 : Nat) ∧ n1 ≤ l.length ∧ bs ++ (inner d f (C - k) (l.drop n1)).1 = T.1 ∧ n1 + (inner d f (C - k) (l.drop n1)).2 = T.2 ∧ RGoes w1 wr wy.heap.size b1 v1 ((RS.zero T.1).on bs.length)) (fun _ i _ => C - (intOf i).toNat)
  case atStart => exact ⟨0, 0, [], by omega, rfl, rfl, by omega, by rw [HT.out]; rfl, by rw [HT.out]; simp, HR1.out, Chg.refl _ _⟩
  case round =>
    obtain ⟨k, n1, bs, hk, rfl, rfl, hn1, hbs, hns, hg⟩ := hrel
    have HK2 := Lib.hid (And.intro hbs hns)
    have HGK := Lib.hid hg
    have c2 : wr.cell? ⟨P, 2, none⟩ = some (.int .i64 K) := cell_of_blk (other_blk hg.2 HPB1.out HPS.out) 2
    clear hbs hns hg
    by_cases q1 : k < C
    · by_cases q2 : n1 < l.length
      · by_cases q3 : 0 < d
        · have q1' : (k : Int) < (C : Int) := by omega
          have q2' : ((n1 + 1 : Nat) : Int) < ((l.length + 1 : Nat) : Int) := by omega
          have q3' : (0 : Int) < (d : Int) := by omega
          obtain ⟨q, l', hql⟩ : ∃ q l', l.drop n1 = q :: l' := by
            cases e : l.drop n1 with
            | nil => have := congrArg List.length e; simp at this; omega
            | cons q l' => exact ⟨q, l', rfl⟩
          have hl' : l'.length + 1 = l.length - n1 := by have := congrArg List.length hql; simp at this; omega
          have hck : C - k = (C - (k + 1)) + 1 := by omega
          have hst := inner_step q3 f (C - (k + 1)) q l'
          rw [← hck, ← hql] at hst
          have hT1 := HK2.out.1
          have hT2 := HK2.out.2
          rw [hst] at hT1 hT2
          dsimp only at hT1 hT2
          have hfl := HFL.out (l.drop n1)
          have hfp := HFP.out q3 q l'
          rw [← hql] at hfp
          rw [List.length_drop] at hfl
          rw [List.drop_drop] at hT1 hT2
          have hza := zero_ahead hT1
          have hops2 := ((HOPS.out.frame HW1.out HNG.out).frame HGK.out.2 (by have := HGS.out; have := HCY.out.size; have := HSZ.out; omega)).drop (n1 + 1)
          rw [List.drop_succ_cons] at hops2
          have hih : ReadsAt w0 (d - 1) f := HIH.out q3
          have hcall := @hih _ _ _ g (o + (n1 + 1) * 5) (c - (n1 + 1)) _ _ q l' _ (by omega) (by unfold maxLen; omega) (by rw [← hql]; exact hops2) (fun x hx => HF.out x (List.mem_cons_of_mem _ (List.mem_of_mem_drop (by rw [hql]; exact hx)))) HGK.out.1 (Nat.le_trans HWS.out HGK.out.2.size) ((HCH.out.trans HW1.out fun i hi h => by subst h; have := HWB.out; have := H.out.nb; omega).trans HGK.out.2 fun i hi h => by subst h; have := HCH.out.size; have := HCY.out.size; have := HSZ.out; omega) rfl (Nat.le_trans (Nat.le_trans HWB.out HBS.out) HCY.out.size) (Nat.le_trans HPA.out.2.2 HXL.out) (by rw [← hql]; exact hza)
          rw [← hql, hl', show (((d - 1 : Nat) : Nat) : Int) = (d : Int) - 1 by omega] at hcall
          obtain ⟨R, hR⟩ : ∃ R, R = f (l.drop n1) := ⟨_, rfl⟩
          rw [← hR] at hcall hfl hfp hT1 hT2
          have HCALL := Lib.hid hcall
          have HT1 := Lib.hid (And.intro hT1 hT2)
          have hR0 : ((R.2 : Int) == 0) = false := beq_eq_false_iff_ne.2 (by omega)
          clear hih hst hT1 hT2 hops2 hcall hR hql hck hl' hza
          go_wp2_with fail
          refine (HPK.out _).mono ?_
          rintro e wa ⟨rfl, rfl⟩
          go_wp2_with fail
          refine HCALL.out.mono ?_
          rintro e wb ⟨rfl, hg⟩
          have hg2 := RGoes.after HGK.out.2 hg
          rw [on_on, ← List.length_append] at hg2
          have HG2 := Lib.hid hg2
          clear hg hg2 HCALL
          go_wp2
          go_roundw
          case rel => exact ⟨k + 1, n1 + R.2, bs ++ R.1, by omega, by go_num, by push_cast; congr 1; omega, by omega, by rw [List.append_assoc]; exact HT1.out.1, by rw [Nat.add_assoc]; exact HT1.out.2, HG2.out⟩
          case measure => simp [intOf]; omega
        · have hd0 : d = 0 := by omega
          subst hd0
          have HE1 := Lib.hid (show bs = T.1 by have := HK2.out.1; rw [inner_deep, List.append_nil] at this; exact this)
          have HE2 := Lib.hid (show n1 = T.2 by have := HK2.out.2; rw [inner_deep] at this; exact this)
          have q1' : (k : Int) < (C : Int) := by omega
          have q2' : ((n1 + 1 : Nat) : Int) < ((l.length + 1 : Nat) : Int) := by omega
          have HE := Lib.hid (rend_ok HGK.out.1)
          rw [HE1.out, zero_end] at HE
          go_wp2_with fail
          refine (HPK.out _).mono ?_
          rintro e wa ⟨rfl, rfl⟩
          go_wp2_with fail
          refine HE.out.mono ?_
          rintro e wb ⟨rfl, hg⟩
          have HGB := Lib.hid hg
          have HER := Lib.hid (rerr_ok hg.1)
          clear hg HE
          rw [if_pos (show ((RS.zero T.1).on T.1.length).bad = 0 from rfl), show ((RS.zero T.1).on T.1.length).bad = 0 from rfl] at HER
          go_wp2_with fail
          refine HER.out.mono ?_
          rintro e wc ⟨rfl, hc⟩
          have HC := Lib.hid hc
          clear hc HER
          go_wp2
          go_ret
          have hce : Chg (fun i => i = b1) w1 wc := (HGK.out.2.trans HGB.out.2 fun _ _ h => h).trans HC.out fun _ _ h => h.elim
          refine ⟨by rw [show (encPart T).2 = n1 + 1 by unfold encPart; rw [← HE2.out]; dsimp only; omega]; rfl, HG.out.frame hce fun i hi h => ?_, HW1.out.trans hce fun i hi h => ?_⟩
          · subst h
            have := (H.out.foot hi).2
            have := HCY.out.size
            have := HSZ.out
            omega
          · subst h
            have := HCY.out.size
            have := HSZ.out
            omega
      · have hdr : l.drop n1 = [] := List.drop_eq_nil_of_le (by omega)
        have HE1 := Lib.hid (show bs = T.1 by have := HK2.out.1; rw [hdr, inner_nil, List.append_nil] at this; exact this)
        have HE2 := Lib.hid (show n1 = T.2 by have := HK2.out.2; rw [hdr, inner_nil] at this; exact this)
        have q1' : (k : Int) < (C : Int) := by omega
        have q2' : ¬ ((n1 + 1 : Nat) : Int) < ((l.length + 1 : Nat) : Int) := by omega
        clear hdr
        have HE := Lib.hid (rend_ok HGK.out.1)
        rw [HE1.out, zero_end] at HE
        go_wp2_with fail
        refine (HPK.out _).mono ?_
        rintro e wa ⟨rfl, rfl⟩
        go_wp2_with fail
        refine HE.out.mono ?_
        rintro e wb ⟨rfl, hg⟩
        have HGB := Lib.hid hg
        have HER := Lib.hid (rerr_ok hg.1)
        clear hg HE
        rw [if_pos (show ((RS.zero T.1).on T.1.length).bad = 0 from rfl), show ((RS.zero T.1).on T.1.length).bad = 0 from rfl] at HER
        go_wp2_with fail
        refine HER.out.mono ?_
        rintro e wc ⟨rfl, hc⟩
        have HC := Lib.hid hc
        clear hc HER
        go_wp2
        go_ret
        have hce : Chg (fun i => i = b1) w1 wc := (HGK.out.2.trans HGB.out.2 fun _ _ h => h).trans HC.out fun _ _ h => h.elim
        refine ⟨by rw [show (encPart T).2 = n1 + 1 by unfold encPart; rw [← HE2.out]; dsimp only; omega]; rfl, HG.out.frame hce fun i hi h => ?_, HW1.out.trans hce fun i hi h => ?_⟩
        · subst h
          have := (H.out.foot hi).2
          have := HCY.out.size
          have := HSZ.out
          omega
        · subst h
          have := HCY.out.size
          have := HSZ.out
          omega
    · have hkc : C - k = 0 := by omega
      have HE1 := Lib.hid (show bs = T.1 by have := HK2.out.1; rw [hkc, inner_zero, List.append_nil] at this; exact this)
      have HE2 := Lib.hid (show n1 = T.2 by have := HK2.out.2; rw [hkc, inner_zero] at this; exact this)
      have q1' : ¬ (k : Int) < (C : Int) := by omega
      clear hkc
      have HE := Lib.hid (rend_ok HGK.out.1)
      rw [HE1.out, zero_end] at HE
      go_wp2_with fail
      refine (HPK.out _).mono ?_
      rintro e wa ⟨rfl, rfl⟩
      go_wp2_with fail
      refine HE.out.mono ?_
      rintro e wb ⟨rfl, hg⟩
      have HGB := Lib.hid hg
      have HER := Lib.hid (rerr_ok hg.1)
      clear hg HE
      rw [if_pos (show ((RS.zero T.1).on T.1.length).bad = 0 from rfl), show ((RS.zero T.1).on T.1.length).bad = 0 from rfl] at HER
      go_wp2_with fail
      refine HER.out.mono ?_
      rintro e wc ⟨rfl, hc⟩
      have HC := Lib.hid hc
      clear hc HER
      go_wp2
      go_ret
      have hce : Chg (fun i => i = b1) w1 wc := (HGK.out.2.trans HGB.out.2 fun _ _ h => h).trans HC.out fun _ _ h => h.elim
      refine ⟨by rw [show (encPart T).2 = n1 + 1 by unfold encPart; rw [← HE2.out]; dsimp only; omega]; rfl, HG.out.frame hce fun i hi h => ?_, HW1.out.trans hce fun i hi h => ?_⟩
      · subst h
        have := (H.out.foot hi).2
        have := HCY.out.size
        have := HSZ.out
        omega
      · subst h
        have := HCY.out.size
        have := HSZ.out
        omega

theorem reads_all (w0 : World) : ∀ d, d ≤ 3 → ReadsAt w0 d (enc d) := by
  intro d
  induction d with
  | zero =>
    intro _ w base b g o c v s p l rest h1 h2 h3 h4 h5 h6 h7 h8 h9 h10 h11
    by_cases hp : p.1 = 8
    · have e : enc 0 (p :: l) = encPart (inner 0 (fun _ => ([], 0)) (pickI p.2.2.1 5).toNat l) := by simp only [enc]; rw [if_pos hp]; rfl
      rw [e] at h11 ⊢
      exact reads_part (d := 0) (by omega) (f := fun _ => ([], 0)) (fun l => by simp) (fun h => absurd h (by omega)) (fun h => absurd h (by omega)) h1 h2 h3 h4 h5 h6 h7 h8 h9 h10 hp h11
    · have e : enc 0 (p :: l) = (encOne p, 1) := by simp only [enc]; rw [if_neg hp]
      rw [e] at h11 ⊢
      exact reads_flat h1 h2 h3 (h4 p (by simp)) h5 h6 h7 h8 h9 hp h11 _
  | succ d ih =>
    intro hd w base b g o c v s p l rest h1 h2 h3 h4 h5 h6 h7 h8 h9 h10 h11
    by_cases hp : p.1 = 8
    · have e : enc (d + 1) (p :: l) = encPart (inner (d + 1) (enc d) (pickI p.2.2.1 5).toNat l) := by simp only [enc]; rw [if_pos hp]; rfl
      rw [e] at h11 ⊢
      exact reads_part (d := d + 1) hd (f := enc d) (enc_le d) (fun _ => enc_pos d) (fun _ => ih (by omega)) h1 h2 h3 h4 h5 h6 h7 h8 h9 h10 hp h11
    · have e : enc (d + 1) (p :: l) = (encOne p, 1) := by simp only [enc]; rw [if_neg hp]
      rw [e] at h11 ⊢
      exact reads_flat h1 h2 h3 (h4 p (by simp)) h5 h6 h7 h8 h9 hp h11 _
end Go.Proofs.YtfihpiommicdbaaDoor
