/- WireBack: contract of the law's 'writes', of parts too. No condition. -/
import Derived.Test.YtfihpiommicdbaaDoorWirS
namespace Go.Proofs.YtfihpiommicdbaaDoor
open Go.RowKit Go.Cl
set_option linter.unusedVariables false
set_option linter.unusedSimpArgs false
attribute [local go_sem] lt_add_one' blk_alloc_past blk_alloc_at blk_drew blk_setCell_ne

/-- What is within a part. -/
def inner (d : Nat) (f : List OpT → List Int × Nat) (C : Nat) (l : List OpT) : List Int × Nat := if d = 0 then ([], 0) else encs f C l
theorem inner_zero (d : Nat) (f : List OpT → List Int × Nat) (l : List OpT) : inner d f 0 l = ([], 0) := by unfold inner; split <;> rfl
theorem inner_nil (d : Nat) (f : List OpT → List Int × Nat) (C : Nat) : inner d f C [] = ([], 0) := by
  unfold inner
  split
  · rfl
  · cases C <;> simp [encs]
theorem inner_deep (f : List OpT → List Int × Nat) (C : Nat) (l : List OpT) : inner 0 f C l = ([], 0) := rfl
theorem inner_step {d : Nat} (hd : 0 < d) (f : List OpT → List Int × Nat) (C : Nat) (q : OpT) (l : List OpT) : inner d f (C + 1) (q :: l) = ((f (q :: l)).1 ++ (inner d f C ((q :: l).drop (f (q :: l)).2)).1, (f (q :: l)).2 + (inner d f C ((q :: l).drop (f (q :: l)).2)).2) := by
  unfold inner
  rw [if_neg (by omega), if_neg (by omega), encs, if_neg (by simp)]

/-- The contract of 'writes' at a depth. -/
def WritesAt (w0 : World) (d : Nat) (f : List OpT → List Int × Nat) : Prop :=
  ∀ {w : World} {b m g o c : Nat} {v : Value} {s : WS} {p : OpT} {l : List OpT}, l.length + 1 ≤ c → c ≤ maxLen → OpsAt w0 w g o (p :: l) → (∀ q ∈ p :: l, OpFit q) → WrIs w w0.heap.size b m v s → Chg (fun _ => False) w0 w → s.bad = 0 → (s.xs.length : Int) + (f (p :: l)).1.length ≤ s.lim →
    Calls Tryd.prog 39 #[ptrV b, .slice (some ⟨g, o, none⟩) (l.length + 1) c, .int .i64 d] w fun e w' => e = .returned (.int .i64 (f (p :: l)).2) ∧ WGoes w w' w0.heap.size b m v { s with xs := s.xs ++ (f (p :: l)).1 }

theorem over_part (X bs : List Int) (n : Int) (hn : n = bs.length) : overAt (X ++ [0, 0, 0, 0] ++ bs) (leB n 4) X.length 4 = X ++ (leB bs.length 4 ++ bs) := by
  unfold overAt
  subst hn
  have h1 : (X ++ [0, 0, 0, 0] ++ bs).take X.length = X := by simp
  have h2 : (X ++ [0, 0, 0, 0] ++ bs).drop (X.length + 4) = bs := by rw [← List.drop_drop]; simp
  have h3 : (leB bs.length 4).take 4 = leB bs.length 4 := by rw [List.take_of_length_le (by rw [leB_len]; omega)]
  rw [h1, h2, h3, List.append_assoc]

theorem shut_part {s : WS} (hb : s.bad = 0) {bs : List Int} : ({ s with xs := s.xs ++ [0, 0, 0, 0] ++ bs, op := (s.xs.length : Int) :: s.op } : WS).shut s.xs.length = { s with xs := s.xs ++ (leB bs.length 4 ++ bs) } := by
  unfold WS.shut
  rw [if_neg (by simpa using hb), if_pos (by simp)]
  dsimp only
  rw [List.erase_cons_head, Int.toNat_natCast, over_part _ _ _ (by simp; omega)]

set_option maxHeartbeats 8000000 in
set_option maxRecDepth 100000 in
theorem writes_part {w0 : World} {d : Nat} (hd3 : d ≤ 3) {f : List OpT → List Int × Nat} (hfl : ∀ l, (f l).2 ≤ l.length) (IH : 0 < d → WritesAt w0 (d - 1) f) {w : World} {b m g o c : Nat} {v : Value} {s : WS} {p : OpT} {l : List OpT} (hlc : l.length + 1 ≤ c) (hcm : c ≤ maxLen) (hops : OpsAt w0 w g o (p :: l)) (hf : ∀ q ∈ p :: l, OpFit q) (h : WrIs w w0.heap.size b m v s) (hch : Chg (fun _ => False) w0 w) (hbad : s.bad = 0) (h8 : p.1 = 8) (hfit : (s.xs.length : Int) + (encPart (inner d f (pickI p.2.2.1 5).toNat l)).1.length ≤ s.lim) :
    Calls Tryd.prog 39 #[ptrV b, .slice (some ⟨g, o, none⟩) (l.length + 1) c, .int .i64 d] w fun e w' => e = .returned (.int .i64 (encPart (inner d f (pickI p.2.2.1 5).toNat l)).2) ∧ WGoes w w' w0.heap.size b m v { s with xs := s.xs ++ (encPart (inner d f (pickI p.2.2.1 5).toNat l)).1 } := by
  have HOPS := Lib.hid hops
  obtain ⟨cur, hcur, hat⟩ := hops
  obtain ⟨bv, e0, e1, e2, e3, e4, hb, hok⟩ := hat 0 p rfl
  rw [Nat.zero_mul, Nat.add_zero] at e0 e1 e2 e3 e4
  have HF := Lib.hid hf
  obtain ⟨y, n, K, B, S⟩ := p
  obtain ⟨k0, k1, k2, k3, k4⟩ := hok
  dsimp only at e0 e1 e2 e3 e4 k0 k1 k2 k3 k4 h8 hfit hb
  subst h8
  have d0 : w.cell? ⟨g, o, none⟩ = some (.int .i64 8) := (cell_of_blk hcur _).trans e0
  have d1 : w.cell? ⟨g, o + 1, none⟩ = some (.int .u64 n) := (cell_of_blk hcur _).trans e1
  have d2 : w.cell? ⟨g, o + 2, none⟩ = some (.int .i64 K) := (cell_of_blk hcur _).trans e2
  have d3 : w.cell? ⟨g, o + 3, none⟩ = some bv := (cell_of_blk hcur _).trans e3
  have d4 : w.cell? ⟨g, o + 4, none⟩ = some (.string S) := (cell_of_blk hcur _).trans e4
  obtain ⟨od, cd, rfl, -⟩ := hb
  have PB := pickI_bd K 5 (by omega)
  have HPK := Lib.hid (fun wy => pick_any K 5 k3 (by omega) (by omega) wy)
  obtain ⟨C, hC⟩ : ∃ C : Nat, (C : Int) = pickI K 5 := ⟨(pickI K 5).toNat, by omega⟩
  rw [← hC] at PB HPK hfit ⊢
  rw [Int.toNat_natCast] at hfit ⊢
  have hC5 : C < 5 := by omega
  obtain ⟨T, hT⟩ : ∃ T, T = inner d f C l := ⟨_, rfl⟩
  rw [← hT] at hfit ⊢
  have hfit2 : (s.xs.length : Int) + 4 + T.1.length ≤ s.lim := by
    simp only [encPart, List.length_append, leB_len] at hfit
    omega
  have HT := Lib.hid hT
  have HFIT := Lib.hid hfit2
  have HIH := Lib.hid (@IH)
  have HFL := Lib.hid hfl
  have H := Lib.hid h
  have HCH := Lib.hid hch
  have HBAD := Lib.hid hbad
  have hrb : s.roomB 4 = true := by
    unfold WS.roomB
    rw [decide_eq_true hbad, decide_eq_true (by omega)]
    rfl
  have HO1 := Lib.hid (show s.opened = { s with xs := s.xs ++ [0, 0, 0, 0], op := (s.xs.length : Int) :: s.op } by unfold WS.opened; rw [if_pos hrb])
  have HO2 := Lib.hid (show s.openV = s.xs.length by unfold WS.openV; rw [if_pos hrb])
  unfold maxLen at hcm
  clear IH hfl h hch hbad hat hcur e0 e1 e2 e3 e4 hfit hfit2 k0 k1 k2 k3 k4 hf hC PB hT hrb
  unfold ptrV at *
  go_enter Tryd.func39, Tryd.ntmps39
  go_upto_block 0 with (fail)
  obtain ⟨wy, hwy⟩ : ∃ wy, wy = w.alloc (.cells #[.int .i64 8, .int .u64 n, .int .i64 K, .slice od B.length cd, .string S] 50 (0, 0)) := ⟨_, rfl⟩
  obtain ⟨P, hP⟩ : ∃ P, P = w.heap.size := ⟨_, rfl⟩
  rw [← hwy, ← hP]
  have hpb : blk wy P = some (.cells #[.int .i64 8, .int .u64 n, .int .i64 K, .slice od B.length cd, .string S] 50 (0, 0)) := by rw [hwy, hP]; exact blk_alloc_at _ _ _ rfl
  have hcy : Chg (fun _ => False) w wy := by rw [hwy]; exact (Chg.refl _ _).alloc _
  have HCY := Lib.hid hcy
  have HPB := Lib.hid hpb
  have HOP := Lib.hid (wopen_ok (H.out.frame hcy fun _ _ => id) (Nat.le_trans HCH.out.size hcy.size))
  rw [HO1.out, HO2.out] at HOP
  clear hwy hP hpb hcy d0 d1 d2 d3 d4
  unfold ptrV at *
  go_wp2_with fail
  refine HOP.out.mono ?_
  rintro e w1 ⟨rfl, hg⟩
  have HG := Lib.hid (WGoes.after (HCY.out.mono fun _ _ h => h.elim) (fun i hi => .inl hi) hg)
  have HPB1 := Lib.hid (show blk w1 P = some (.cells #[.int .i64 8, .int .u64 n, .int .i64 K, .slice od B.length cd, .string S] 50 (0, 0)) by
    obtain ⟨_, _, hc, _⟩ := hg
    exact hc.blk' HPB.out ((H.out.frame HCY.out fun _ _ => id).not_foot HPB.out (by decide) (by decide)))
  clear hg HOP
  go_wp2_with fail
  go_loopw [9, 10] (fun s9 s10 wr => ∃ (k n1 : Nat) (bs : List Int), k ≤ C ∧ s10 = .int .i64 k ∧ s9 = .int .i64 (n1 + 1 : Nat) ∧ n1 ≤ l.length ∧ bs ++ (inner d f (C - k) (l.drop n1)).1 = T.1 ∧ n1 + (inner d f (C - k) (l.drop n1)).2 = T.2 ∧ WGoes w wr w0.heap.size b m v { s with xs := s.xs ++ [0, 0, 0, 0] ++ bs, op := (s.xs.length : Int) :: s.op } ∧ blk wr P = some (.cells #[.int .i64 8, .int .u64 n, .int .i64 K, .slice od B.length cd, .string S] 50 (0, 0))) (fun _ i _ => C - (intOf i).toNat)
  case atStart => exact ⟨0, 0, [], by omega, rfl, rfl, by omega, by rw [HT.out]; rfl, by rw [HT.out]; simp, by rw [List.append_nil]; exact HG.out, HPB1.out⟩
  case round =>
    obtain ⟨k, n1, bs, hk, rfl, rfl, hn1, hbs, hns, hg, hpb⟩ := hrel
    have HK2 := Lib.hid (And.intro hbs hns)
    have HGK := Lib.hid hg
    have HPBK := Lib.hid hpb
    have c2 : wr.cell? ⟨P, 2, none⟩ = some (.int .i64 K) := cell_of_blk hpb 2
    clear hbs hns hg hpb
    by_cases q1 : k < C
    · by_cases q2 : n1 < l.length
      · by_cases q3 : 0 < d
        · have q1' : (k : Int) < (C : Int) := by omega
          have q2' : ((n1 + 1 : Nat) : Int) < ((l.length + 1 : Nat) : Int) := by omega
          have q3' : (0 : Int) < (d : Int) := by omega
          obtain ⟨q, l', hql⟩ : ∃ q l', l.drop n1 = q :: l' := by
            cases e : l.drop n1 with
            | nil => have := congrArg List.length e; simp at this; omega
            | cons q l' => exact ⟨q, l', rfl⟩
          have hl' : l'.length + 1 = l.length - n1 := by have := congrArg List.length hql; simp at this; omega
          have hck : C - k = (C - (k + 1)) + 1 := by omega
          have hst := inner_step q3 f (C - (k + 1)) q l'
          rw [← hck, ← hql] at hst
          have hT1 := HK2.out.1
          have hT2 := HK2.out.2
          rw [hst] at hT1 hT2
          dsimp only at hT1 hT2
          have hfl := HFL.out (l.drop n1)
          rw [List.length_drop] at hfl
          rw [List.drop_drop] at hT1 hT2
          have hTl := congrArg List.length hT1
          simp only [List.length_append] at hTl
          obtain ⟨v1, hw1, hc1, hf1⟩ := HGK.out
          obtain ⟨curg, hcurg, -⟩ := HOPS.out
          have hng : ¬ WFoot b m v g := H.out.not_foot hcurg (by decide) (by decide)
          have hops2 := (HOPS.out.frame hc1 hng).drop (n1 + 1)
          rw [List.drop_succ_cons] at hops2
          have hih : WritesAt w0 (d - 1) f := HIH.out q3
          have hcall := @hih _ _ _ g (o + (n1 + 1) * 5) (c - (n1 + 1)) _ _ q l' (by omega) (by unfold maxLen; omega) (by rw [← hql]; exact hops2) (fun x hx => HF.out x (List.mem_cons_of_mem _ (List.mem_of_mem_drop (by rw [hql]; exact hx)))) hw1 (HCH.out.trans hc1 fun i hi h => by have := (H.out.foot h).1; omega) HBAD.out (by
            have := HFIT.out
            rw [← hql]
            simp only [List.length_append, List.length_cons, List.length_nil]
            omega)
          rw [← hql, hl', show (((d - 1 : Nat) : Nat) : Int) = (d : Int) - 1 by omega] at hcall
          obtain ⟨R, hR⟩ : ∃ R, R = f (l.drop n1) := ⟨_, rfl⟩
          rw [← hR] at hcall hfl hT1 hT2
          have HCALL := Lib.hid hcall
          have HT1 := Lib.hid (And.intro hT1 hT2)
          have HC1 := Lib.hid hc1
          have HF1 := Lib.hid hf1
          have HNP := Lib.hid (fun (w' : World) (h : Chg (WFoot b m v1) wr w') => h.blk' HPBK.out (hw1.not_foot HPBK.out (by decide) (by decide)))
          clear hih hst hT1 hT2 hTl hw1 hc1 hf1 hops2 hcall hR hql hck hng hcurg hl'
          unfold ptrV at *
          go_wp2_with fail
          refine (HPK.out _).mono ?_
          rintro e wa ⟨rfl, rfl⟩
          go_wp2_with fail
          refine HCALL.out.mono ?_
          rintro e wb ⟨rfl, hg⟩
          have HPB2 := Lib.hid (show blk wb P = some (.cells #[.int .i64 8, .int .u64 n, .int .i64 K, .slice od B.length cd, .string S] 50 (0, 0)) by
            obtain ⟨_, _, hc, _⟩ := hg
            exact HNP.out _ hc)
          have hg2 := WGoes.after HC1.out HF1.out hg
          rw [List.append_assoc (s.xs ++ [0, 0, 0, 0]) bs R.1] at hg2
          have HG2 := Lib.hid hg2
          clear hg hg2 HCALL
          go_wp2
          go_roundw
          case rel => exact ⟨k + 1, n1 + R.2, bs ++ R.1, by omega, by go_num, by push_cast; congr 1; omega, by omega, by rw [List.append_assoc]; exact HT1.out.1, by rw [Nat.add_assoc]; exact HT1.out.2, HG2.out, HPB2.out⟩
          case measure => simp [intOf]; omega
        · have hd0 : d = 0 := by omega
          subst hd0
          have HE1 := Lib.hid (show bs = T.1 by have := HK2.out.1; rw [inner_deep, List.append_nil] at this; exact this)
          have HE2 := Lib.hid (show n1 = T.2 by have := HK2.out.2; rw [inner_deep] at this; exact this)
          have q1' : (k : Int) < (C : Int) := by omega
          have q2' : ((n1 + 1 : Nat) : Int) < ((l.length + 1 : Nat) : Int) := by omega
          obtain ⟨v1, hw1, hc1, hf1⟩ := HGK.out
          have HSH := Lib.hid (wshut_ok hw1 s.xs.length (by have := H.out.fine.few; have := H.out.fine.l1; unfold I64; omega))
          rw [shut_part HBAD.out] at HSH
          have HC1 := Lib.hid hc1
          have HF1 := Lib.hid hf1
          clear hw1 hc1 hf1
          unfold ptrV at *
          go_wp2_with fail
          refine (HPK.out _).mono ?_
          rintro e wa ⟨rfl, rfl⟩
          go_wp2_with fail
          refine HSH.out.mono ?_
          rintro e wb ⟨rfl, hg⟩
          have HGB := Lib.hid (WGoes.after HC1.out HF1.out hg)
          clear hg HSH
          go_wp2
          go_ret
          refine ⟨by rw [show (encPart T).2 = n1 + 1 by unfold encPart; rw [← HE2.out]; dsimp only; omega]; rfl, ?_⟩
          rw [show (encPart T).1 = leB bs.length 4 ++ bs by unfold encPart; rw [← HE1.out]]
          exact HGB.out
      · have hdr : l.drop n1 = [] := List.drop_eq_nil_of_le (by omega)
        have HE1 := Lib.hid (show bs = T.1 by have := HK2.out.1; rw [hdr, inner_nil, List.append_nil] at this; exact this)
        have HE2 := Lib.hid (show n1 = T.2 by have := HK2.out.2; rw [hdr, inner_nil] at this; exact this)
        have q1' : (k : Int) < (C : Int) := by omega
        have q2' : ¬ ((n1 + 1 : Nat) : Int) < ((l.length + 1 : Nat) : Int) := by omega
        clear hdr
        obtain ⟨v1, hw1, hc1, hf1⟩ := HGK.out
        have HSH := Lib.hid (wshut_ok hw1 s.xs.length (by have := H.out.fine.few; have := H.out.fine.l1; unfold I64; omega))
        rw [shut_part HBAD.out] at HSH
        have HC1 := Lib.hid hc1
        have HF1 := Lib.hid hf1
        clear hw1 hc1 hf1
        unfold ptrV at *
        go_wp2_with fail
        refine (HPK.out _).mono ?_
        rintro e wa ⟨rfl, rfl⟩
        go_wp2_with fail
        refine HSH.out.mono ?_
        rintro e wb ⟨rfl, hg⟩
        have HGB := Lib.hid (WGoes.after HC1.out HF1.out hg)
        clear hg HSH
        go_wp2
        go_ret
        refine ⟨by rw [show (encPart T).2 = n1 + 1 by unfold encPart; rw [← HE2.out]; dsimp only; omega]; rfl, ?_⟩
        rw [show (encPart T).1 = leB bs.length 4 ++ bs by unfold encPart; rw [← HE1.out]]
        exact HGB.out
    · have hkc : C - k = 0 := by omega
      have HE1 := Lib.hid (show bs = T.1 by have := HK2.out.1; rw [hkc, inner_zero, List.append_nil] at this; exact this)
      have HE2 := Lib.hid (show n1 = T.2 by have := HK2.out.2; rw [hkc, inner_zero] at this; exact this)
      have q1' : ¬ (k : Int) < (C : Int) := by omega
      clear hkc
      obtain ⟨v1, hw1, hc1, hf1⟩ := HGK.out
      have HSH := Lib.hid (wshut_ok hw1 s.xs.length (by have := H.out.fine.few; have := H.out.fine.l1; unfold I64; omega))
      rw [shut_part HBAD.out] at HSH
      have HC1 := Lib.hid hc1
      have HF1 := Lib.hid hf1
      clear hw1 hc1 hf1
      unfold ptrV at *
      go_wp2_with fail
      refine (HPK.out _).mono ?_
      rintro e wa ⟨rfl, rfl⟩
      go_wp2_with fail
      refine HSH.out.mono ?_
      rintro e wb ⟨rfl, hg⟩
      have HGB := Lib.hid (WGoes.after HC1.out HF1.out hg)
      clear hg HSH
      go_wp2
      go_ret
      refine ⟨by rw [show (encPart T).2 = n1 + 1 by unfold encPart; rw [← HE2.out]; dsimp only; omega]; rfl, ?_⟩
      rw [show (encPart T).1 = leB bs.length 4 ++ bs by unfold encPart; rw [← HE1.out]]
      exact HGB.out

theorem writes_all (w0 : World) : ∀ d, d ≤ 3 → WritesAt w0 d (enc d) := by
  intro d
  induction d with
  | zero =>
    intro _ w b m g o c v s p l h1 h2 h3 h4 h5 h6 h7 h8
    by_cases hp : p.1 = 8
    · have e : enc 0 (p :: l) = encPart (inner 0 (fun _ => ([], 0)) (pickI p.2.2.1 5).toNat l) := by simp only [enc]; rw [if_pos hp]; rfl
      rw [e] at h8 ⊢
      exact writes_part (d := 0) (by omega) (f := fun _ => ([], 0)) (fun l => by simp) (fun h => absurd h (by omega)) h1 h2 h3 h4 h5 h6 h7 hp h8
    · have e : enc 0 (p :: l) = (encOne p, 1) := by simp only [enc]; rw [if_neg hp]
      rw [e] at h8 ⊢
      exact writes_flat h1 h2 h3 (h4 p (by simp)) h5 h6 h7 hp h8 _
  | succ d ih =>
    intro hd w b m g o c v s p l h1 h2 h3 h4 h5 h6 h7 h8
    by_cases hp : p.1 = 8
    · have e : enc (d + 1) (p :: l) = encPart (inner (d + 1) (enc d) (pickI p.2.2.1 5).toNat l) := by simp only [enc]; rw [if_pos hp]; rfl
      rw [e] at h8 ⊢
      exact writes_part (d := d + 1) hd (f := enc d) (enc_le d) (fun _ => ih (by omega)) h1 h2 h3 h4 h5 h6 h7 hp h8
    · have e : enc (d + 1) (p :: l) = (encOne p, 1) := by simp only [enc]; rw [if_neg hp]
      rw [e] at h8 ⊢
      exact writes_flat h1 h2 h3 (h4 p (by simp)) h5 h6 h7 hp h8 _
end Go.Proofs.YtfihpiommicdbaaDoor
