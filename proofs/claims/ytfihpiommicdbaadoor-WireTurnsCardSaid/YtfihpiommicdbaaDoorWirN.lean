/- Readers: contract of Pad; the noughts up to a multiple. No condition. -/
import Derived.Test.YtfihpiommicdbaaDoorWirM
namespace Go.Proofs.YtfihpiommicdbaaDoor
open Go.RowKit Go.Cl
set_option linter.unusedVariables false
set_option linter.unusedSimpArgs false
attribute [local go_sem] lt_add_one' blk_alloc_past blk_alloc_at blk_drew blk_setCell_ne

/-- How many noughts there are up to a multiple. -/
def gapN (p t : Nat) : Nat := (t - p % t) % t
theorem gapN_lt {p t : Nat} (h : 0 < t) : gapN p t < t := Nat.mod_lt _ h

theorem gap_ok (p t : Nat) (h0 : 1 ≤ t) (h1 : t ≤ 4096) (hp : p ≤ 140737488355328) (w : World) :
    Calls Tryd.prog 79 #[.int .i64 p, .int .i64 t] w fun r w' => r = .returned (.int .i64 (gapN p t)) ∧ w = w' := by
  have e1 : (p : Int).tmod (t : Int) = ((p % t : Nat) : Int) := by rw [Int.tmod_eq_emod_of_nonneg (by omega)]; rfl
  have h2 : p % t < t := Nat.mod_lt _ (by omega)
  have e2 : ((t : Int) - ((p % t : Nat) : Int)).tmod (t : Int) = ((gapN p t : Nat) : Int) := by
    rw [Int.tmod_eq_emod_of_nonneg (by omega)]
    unfold gapN
    rw [show (t : Int) - ((p % t : Nat) : Int) = ((t - p % t : Nat) : Int) by omega]
    rfl
  have HE2 := Lib.hid e2
  generalize gapN p t = g at *
  generalize p % t = q at *
  have t0 : ((t : Int) == 0) = false := by simp; omega
  have e3 := HE2.out
  have e4 : (p : Int) % (t : Int) = (q : Int) := by rw [← e1, Int.tmod_eq_emod_of_nonneg (by omega)]
  have e5 : ((t : Int) - (q : Int)) % (t : Int) = (g : Int) := by rw [← e3, Int.tmod_eq_emod_of_nonneg (by omega)]
  have b5 : 0 ≤ (t : Int) - (q : Int) := by omega
  have h2' : (q : Int) < (t : Int) := by omega
  go_enter Tryd.func79, Tryd.ntmps79
  go_wp2
  go_ret
  exact ⟨rfl, rfl⟩

def nzAt (l : List Int) : Option Nat := l.findIdx? (fun b => b != 0)
/-- What Pad does to a reader. -/
def RS.padS (s : RS) (tt : Int) : RS :=
  if tt < 1 ∨ 4096 < tt then s.fail 10 s.pos
  else match nzAt (s.took (gapN s.pos tt.toNat)) with
    | none => s.next (gapN s.pos tt.toNat)
    | some i => { s.next (gapN s.pos tt.toNat) with pos := s.pos }.fail 13 ((s.pos : Int) + i)

set_option maxHeartbeats 2000000 in
set_option maxRecDepth 100000 in
theorem rpad_ok {w : World} {base b : Nat} {v : Value} {s : RS} (h : RdIs w base b v s) (tt : Int) :
    Calls Tryd.prog 35 #[.pointer (some ⟨b, 0, none⟩), .int .i64 tt] w fun r w' => r = .returned (.tuple #[]) ∧ RGoes w w' base b v (s.padS tt) := by
  obtain ⟨hb, -, f1, -⟩ := h.facts
  have HF := Lib.hid (rfail_ok h 10 s.pos)
  by_cases hto : tt < 1 ∨ 4096 < tt
  · have HE := Lib.hid (show s.padS tt = s.fail 10 s.pos by unfold RS.padS; rw [if_pos hto])
    clear h
    rcases hto with hto | hto
    · go_enter Tryd.func35, Tryd.ntmps35
      go_wp2_with fail
      refine HF.out.mono ?_
      rintro e w1 ⟨rfl, hg⟩
      have HG := Lib.hid hg
      clear hg HF
      go_wp2
      refine bodyPost_ret (results_none rfl _ _ _) rfl ?_
      exact ⟨rfl, by rw [HE.out]; exact HG.out⟩
    · have hto2 : ¬ tt < 1 := by omega
      go_enter Tryd.func35, Tryd.ntmps35
      go_wp2_with fail
      refine HF.out.mono ?_
      rintro e w1 ⟨rfl, hg⟩
      have HG := Lib.hid hg
      clear hg HF
      go_wp2
      refine bodyPost_ret (results_none rfl _ _ _) rfl ?_
      exact ⟨rfl, by rw [HE.out]; exact HG.out⟩
  · obtain ⟨t, rfl⟩ := Int.eq_ofNat_of_zero_le (show 0 ≤ tt by omega)
    have t1 : ¬ (t : Int) < 1 := by omega
    have t2 : ¬ (4096 : Int) < (t : Int) := by omega
    have hfw := h.few
    have hle := h.le
    have HGP := Lib.hid (gap_ok s.pos t (by omega) (by omega) (by omega) w)
    have hgl := gapN_lt (p := s.pos) (show 0 < t by omega)
    have HD := Lib.hid (show s.padS t = match nzAt (s.took (gapN s.pos t)) with
      | none => s.next (gapN s.pos t)
      | some i => { s.next (gapN s.pos t) with pos := s.pos }.fail 13 ((s.pos : Int) + i) by unfold RS.padS; rw [if_neg hto]; rfl)
    have HN := Lib.hid (rnext_ok h (gapN s.pos t) (by omega))
    have HTL := Lib.hid (took_len s (gapN s.pos t))
    have HFW := Lib.hid (And.intro hfw hle)
    have HXS := Lib.hid (next_xs s (gapN s.pos t))
    obtain ⟨n, hn⟩ : ∃ n, n = gapN s.pos t := ⟨_, rfl⟩
    rw [← hn] at HD HN HTL HGP hgl HXS
    obtain ⟨x, hx⟩ : ∃ x, x = s.took n := ⟨_, rfl⟩
    obtain ⟨s1, hs1⟩ : ∃ s1, s1 = s.next n := ⟨_, rfl⟩
    rw [← hx, ← hs1] at HD HN
    rw [← hx] at HTL
    rw [← hs1] at HXS
    clear h hto HF hn hx hs1 hfw hle
    go_enter Tryd.func35, Tryd.ntmps35
    go_wp2_with fail
    refine HGP.out.mono ?_
    rintro e w1 ⟨rfl, rfl⟩
    go_wp2_with fail
    refine HN.out.mono ?_
    rintro e w1 ⟨v', rfl, hbs, hg⟩
    have HB := Lib.hid hbs
    have HG := Lib.hid hg
    obtain ⟨hb1, -, g1, -, -, z1, -⟩ := hg.1.facts
    have hxl := HTL.out
    obtain ⟨ob, c, rfl, hc1, hc2, -⟩ := hbs
    unfold maxLen at hc2
    clear hg HN HGP
    go_wp2_with fail
    go_loop [32] (fun s32 => ∃ k : Nat, k ≤ x.length ∧ s32 = .int .i64 k ∧ nzAt (x.take k) = none) (fun i => x.length - (intOf i).toNat)
    case atStart => exact ⟨0, Nat.zero_le _, rfl, rfl⟩
    case round =>
      obtain ⟨k, hk, rfl, hnz⟩ := hrel
      have HNZ := Lib.hid hnz
      clear hnz
      by_cases hlt : k < x.length
      · obtain ⟨g2, o2, c2, hv2, _, _, hat2⟩ := HB.out.at (by omega)
        simp only [Value.slice.injEq] at hv2
        obtain ⟨rfl, _, rfl⟩ := hv2
        obtain ⟨hcell, hb0, hb1'⟩ := hat2 k _ (List.getElem?_eq_getElem hlt)
        have hlt' : (k : Int) < (x.length : Int) := by omega
        have HSN := Lib.hid (take_snocI x k hlt)
        have HSP := Lib.hid (show x = x.take k ++ x[k] :: x.drop (k + 1) by rw [← List.drop_eq_getElem_cons hlt, List.take_append_drop])
        generalize x[k] = y at *
        clear hat2
        by_cases hy : y = 0
        · subst hy
          go_wp2
          go_round
          case rel => exact ⟨k + 1, by omega, by go_num, by rw [HSN.out]; unfold nzAt; rw [List.findIdx?_append]; have := HNZ.out; unfold nzAt at this; rw [this]; simp⟩
          case measure => simp [intOf]; omega
        · have hy1 : (y != 0) = true := by simpa using hy
          have HI := Lib.hid (show nzAt x = some k by
            rw [HSP.out]
            unfold nzAt
            rw [List.findIdx?_append]
            have := HNZ.out
            unfold nzAt at this
            rw [this]
            simp [List.findIdx?_cons, hy]
            omega)
          have HE := Lib.hid (show s.padS t = { s1 with pos := s.pos }.fail 13 ((s.pos : Int) + k) by rw [HD.out, HI.out])
          have hp := HG.out.1.put (s' := { s1 with pos := s.pos }) (w' := w1.setCell ⟨b, 1, none⟩ (.int .i64 s.pos)) ((Chg.refl (fun i => i = b) w1).setCell (p := ⟨b, 1, none⟩) (fun _ => rfl) _) rfl (by rw [HXS.out]; exact HFW.out.2) (by
            rw [blk_setCell_eq, HG.out.1.st]
            simp [objSet])
          have HP := Lib.hid hp
          have HF := Lib.hid (rfail_ok hp.1 13 ((s.pos : Int) + k))
          have hfw := HFW.out
          have hsp : (s.pos : Int) ≤ 140737488355328 := by omega
          have hk2 : (k : Int) ≤ 4096 := by omega
          clear hp hfw hy
          go_wp2_with fail
          refine HF.out.mono ?_
          rintro e w2 ⟨rfl, hg2⟩
          have HG2 := Lib.hid hg2
          clear hg2 HF
          go_wp2
          refine bodyPost_ret (results_none rfl _ _ _) rfl ?_
          exact ⟨rfl, by rw [HE.out]; exact RGoes.after HG.out.2 (RGoes.after HP.out.2 HG2.out)⟩
      · have hke : k = x.length := by omega
        subst hke
        have HI := Lib.hid (show s.padS t = s1 by rw [HD.out]; have := HNZ.out; rw [List.take_length] at this; rw [this])
        go_wp2
        go_end0
        exact ⟨rfl, by rw [HI.out]; exact HG.out⟩
end Go.Proofs.YtfihpiommicdbaaDoor
