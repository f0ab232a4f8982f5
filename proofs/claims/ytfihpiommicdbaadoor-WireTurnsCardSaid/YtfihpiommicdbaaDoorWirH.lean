/- Readers: contracts of Byte, Half, Word, Long, Raw, End, Fail; of the laws' 'known'. No condition. (Printed by genH.py.) -/
import Derived.Test.YtfihpiommicdbaaDoorWirG
import Derived.Test.YtfihpiommicdbaaDoorWirE
namespace Go.Proofs.YtfihpiommicdbaaDoor
open Go.RowKit Go.Cl
set_option linter.unusedVariables false
set_option linter.unusedSimpArgs false
attribute [local go_sem] lt_add_one' blk_alloc_past blk_alloc_at blk_drew blk_setCell_ne

set_option maxRecDepth 100000 in
theorem rByte_ok {w : World} {base b : Nat} {v : Value} {s : RS} (h : RdIs w base b v s) :
    Calls Tryd.prog 30 #[.pointer (some ⟨b, 0, none⟩)] w fun r w' => r = .returned (.int .u8 (s.num 1)) ∧ RGoes w w' base b v (s.next 1) := by
  have HP := Lib.hid (get8_ok h)
  clear h
  obtain ⟨nv, hnv⟩ : ∃ nv, nv = s.num 1 := ⟨_, rfl⟩
  rw [← hnv] at HP ⊢
  clear hnv
  go_enter Tryd.func30, Tryd.ntmps30
  go_wp2_with fail
  refine HP.out.mono ?_
  rintro e w1 ⟨rfl, hg⟩
  have HG := Lib.hid hg
  clear hg HP
  go_wp2
  go_ret
  exact ⟨rfl, HG.out⟩

set_option maxRecDepth 100000 in
theorem rHalf_ok {w : World} {base b : Nat} {v : Value} {s : RS} (h : RdIs w base b v s) :
    Calls Tryd.prog 71 #[.pointer (some ⟨b, 0, none⟩)] w fun r w' => r = .returned (.int .u16 (s.num 2)) ∧ RGoes w w' base b v (s.next 2) := by
  have HP := Lib.hid (get16_ok h)
  clear h
  obtain ⟨nv, hnv⟩ : ∃ nv, nv = s.num 2 := ⟨_, rfl⟩
  rw [← hnv] at HP ⊢
  clear hnv
  go_enter Tryd.func71, Tryd.ntmps71
  go_wp2_with fail
  refine HP.out.mono ?_
  rintro e w1 ⟨rfl, hg⟩
  have HG := Lib.hid hg
  clear hg HP
  go_wp2
  go_ret
  exact ⟨rfl, HG.out⟩

set_option maxRecDepth 100000 in
theorem rWord_ok {w : World} {base b : Nat} {v : Value} {s : RS} (h : RdIs w base b v s) :
    Calls Tryd.prog 50 #[.pointer (some ⟨b, 0, none⟩)] w fun r w' => r = .returned (.int .u32 (s.num 4)) ∧ RGoes w w' base b v (s.next 4) := by
  have HP := Lib.hid (get32_ok h)
  clear h
  obtain ⟨nv, hnv⟩ : ∃ nv, nv = s.num 4 := ⟨_, rfl⟩
  rw [← hnv] at HP ⊢
  clear hnv
  go_enter Tryd.func50, Tryd.ntmps50
  go_wp2_with fail
  refine HP.out.mono ?_
  rintro e w1 ⟨rfl, hg⟩
  have HG := Lib.hid hg
  clear hg HP
  go_wp2
  go_ret
  exact ⟨rfl, HG.out⟩

set_option maxRecDepth 100000 in
theorem rLong_ok {w : World} {base b : Nat} {v : Value} {s : RS} (h : RdIs w base b v s) :
    Calls Tryd.prog 38 #[.pointer (some ⟨b, 0, none⟩)] w fun r w' => r = .returned (.int .u64 (s.num 8)) ∧ RGoes w w' base b v (s.next 8) := by
  have HP := Lib.hid (get64_ok h)
  clear h
  obtain ⟨nv, hnv⟩ : ∃ nv, nv = s.num 8 := ⟨_, rfl⟩
  rw [← hnv] at HP ⊢
  clear hnv
  go_enter Tryd.func38, Tryd.ntmps38
  go_wp2_with fail
  refine HP.out.mono ?_
  rintro e w1 ⟨rfl, hg⟩
  have HG := Lib.hid hg
  clear hg HP
  go_wp2
  go_ret
  exact ⟨rfl, HG.out⟩

set_option maxRecDepth 100000 in
theorem rFail_ok {w : World} {base b : Nat} {v : Value} {s : RS} (h : RdIs w base b v s) (e : Int) :
    Calls Tryd.prog 37 #[.pointer (some ⟨b, 0, none⟩), .int .i64 e] w fun r w' => r = .returned (.tuple #[]) ∧ RGoes w w' base b v (if e = 0 then s else s.fail e s.pos) := by
  obtain ⟨hb, f0, f1, f2, f3, z1, z2, z3⟩ := h.facts
  have H := Lib.hid h
  have HF := Lib.hid (rfail_ok h e s.pos)
  clear h f0 f2 f3 z1 z2 z3
  by_cases he : e = 0
  · have he1 : (e != 0) = false := by simp [he]
    rw [if_pos he]
    clear he
    go_enter Tryd.func37, Tryd.ntmps37
    go_wp2
    go_end0
    exact ⟨rfl, H.out.stays (Chg.refl _ _)⟩
  · have he1 : (e != 0) = true := by simp [he]
    rw [if_neg he]
    clear he
    go_enter Tryd.func37, Tryd.ntmps37
    go_wp2_with fail
    refine HF.out.mono ?_
    rintro e1 w1 ⟨rfl, hg⟩
    have HG := Lib.hid hg
    clear hg HF
    go_wp2
    go_end0
    exact ⟨rfl, HG.out⟩

def RS.end (s : RS) : RS := if 0 < s.left then s.fail 14 s.pos else s
set_option maxRecDepth 100000 in
theorem rend_ok {w : World} {base b : Nat} {v : Value} {s : RS} (h : RdIs w base b v s) :
    Calls Tryd.prog 36 #[.pointer (some ⟨b, 0, none⟩)] w fun r w' => r = .returned (.tuple #[]) ∧ RGoes w w' base b v s.end := by
  have H := Lib.hid h
  have HL := Lib.hid (rleft_ok h)
  clear h
  by_cases hl : 0 < s.left
  · have HE := Lib.hid (show s.end = s.fail 14 s.pos by unfold RS.end; rw [if_pos hl])
    obtain ⟨lv, hlv⟩ : ∃ lv, lv = s.left := ⟨_, rfl⟩
    rw [← hlv] at HL hl
    clear hlv
    go_enter Tryd.func36, Tryd.ntmps36
    go_wp2_with fail
    refine HL.out.mono ?_
    rintro e1 w1 ⟨rfl, hc⟩
    have h1 := H.out.frame hc fun _ _ => id
    obtain ⟨hb, f0, f1, f2, f3, z1, z2, z3⟩ := h1.facts
    have HF := Lib.hid (rfail_ok h1 14 s.pos)
    have HC := Lib.hid hc
    clear h1 hc f0 f2 f3 z1 z2 z3 HL
    go_wp2_with fail
    refine HF.out.mono ?_
    rintro e1 w2 ⟨rfl, hg⟩
    have HG := Lib.hid hg
    clear hg HF
    go_wp2
    go_end0
    exact ⟨rfl, by rw [HE.out]; exact RGoes.after (HC.out.mono fun _ _ h => h.elim) HG.out⟩
  · have HE := Lib.hid (show s.end = s by unfold RS.end; rw [if_neg hl])
    obtain ⟨lv, hlv⟩ : ∃ lv, lv = s.left := ⟨_, rfl⟩
    rw [← hlv] at HL hl
    clear hlv
    go_enter Tryd.func36, Tryd.ntmps36
    go_wp2_with fail
    refine HL.out.mono ?_
    rintro e1 w1 ⟨rfl, hc⟩
    have HC := Lib.hid hc
    clear hc HL
    go_wp2
    go_end0
    exact ⟨rfl, by rw [HE.out]; exact H.out.stays HC.out⟩

/-- What Raw does to a reader, and what it tells. -/
def RS.rawS (s : RS) (n : Int) : RS := if n < 0 then s.fail 10 s.pos else s.next n.toNat
def RS.rawV (s : RS) (n : Int) : List Int := if n < 0 then [] else s.took n.toNat
theorem took_few (s : RS) (n : Nat) : (s.took n).length ≤ s.xs.length := by
  unfold RS.took
  split
  · rw [List.length_take, List.length_drop]; omega
  · simp
set_option maxHeartbeats 1000000 in
set_option maxRecDepth 100000 in
theorem rraw_ok {w : World} {base b : Nat} {v : Value} {s : RS} (h : RdIs w base b v s) (n : Int) (hn : n ≤ 9223372036854775807) :
    Calls Tryd.prog 29 #[.pointer (some ⟨b, 0, none⟩), .int .i64 n] w fun r w' => ∃ v', r = .returned v' ∧ w'.ownsRow w.heap.size 5 1 v' (s.rawV n).length (u8s (s.rawV n)) ∧ RGoes w w' base b v (s.rawS n) := by
  obtain ⟨hb, f0, f1, f2, f3, z1, z2, z3⟩ := h.facts
  have H := Lib.hid h
  have HF := Lib.hid (rfail_ok h 10 s.pos)
  by_cases hneg : n < 0
  · have HE1 := Lib.hid (show s.rawS n = s.fail 10 s.pos by unfold RS.rawS; rw [if_pos hneg])
    have HE2 := Lib.hid (show s.rawV n = [] by unfold RS.rawV; rw [if_pos hneg])
    clear h f0 f2 f3 z1 z2 z3
    go_enter Tryd.func29, Tryd.ntmps29
    go_wp2_with fail
    refine HF.out.mono ?_
    rintro e1 w1 ⟨rfl, hg⟩
    have HG := Lib.hid hg
    clear hg HF
    go_wp2
    go_ret
    exact ⟨_, rfl, by rw [HE2.out]; exact nil_row _ _ _, by rw [HE1.out]; exact HG.out⟩
  · obtain ⟨k, rfl⟩ := Int.eq_ofNat_of_zero_le (show 0 ≤ n by omega)
    have HE1 := Lib.hid (show s.rawS k = s.next k by unfold RS.rawS; rw [if_neg (by omega)]; rfl)
    have HE2 := Lib.hid (show s.rawV k = s.took k by unfold RS.rawV; rw [if_neg (by omega)]; rfl)
    have HN := Lib.hid (rnext_ok h k (by omega))
    have HTL := Lib.hid (took_few s k)
    have HKB := Lib.hid h.few
    obtain ⟨i0, hi, hz0, hz1, hz2⟩ := info5z
    clear h f0 f1 f2 f3 z1 z2 z3 HF hn
    go_enter Tryd.func29, Tryd.ntmps29
    go_wp2_with fail
    refine HN.out.mono ?_
    rintro e1 w1 ⟨v', rfl, hbs, hg⟩
    obtain ⟨x, hx⟩ : ∃ x, x = s.took k := ⟨_, rfl⟩
    rw [← hx] at hbs HTL HE2
    have HB := Lib.hid hbs
    have HG := Lib.hid hg
    obtain ⟨ob, c, rfl, hc1, hc2, hc3, _⟩ := hbs
    have HS := Lib.hid HB.out.src
    have HC0 := Lib.hid hc3
    have HNR := Lib.hid (nil_row w1 w.heap.size 5)
    have HSZ := Lib.hid hg.2.size
    clear hg HN hx hc1 hc2 hc3
    go_wp2_with (at_builtin; refine wpList_app rfl _ _ 24 rfl w.heap.size 5 i0 (.int .u8 0) 1 1 Tryd.underlying24 hi hz0 hz1 hz2 rfl (by decide) (.slice none 0 0) 0 [] (by rfl) HNR.out ob x.length c _ (by rfl) HS.out HC0.out (by have := HTL.out; have := HKB.out; unfold maxLen; omega) (by have := HTL.out; have := HKB.out; omega) HSZ.out ?_; intro v1 w2 hown hgrow hlie; have HO := Lib.hid (show w2.ownsRow w.heap.size 5 1 v1 x.length (u8s x) by simpa using hown); have HC := Lib.hid (show Chg (fun _ => False) w1 w2 from (Chg.of_grown hgrow).mono fun _ _ h => by simp [Value.ownBlock] at h); clear hown hgrow hlie)
    go_ret
    exact ⟨_, rfl, by rw [HE2.out]; exact HO.out, by rw [HE1.out]; exact ⟨HG.out.1.frame HC.out fun _ _ => id, HG.out.2.trans HC.out fun _ _ h => h.elim⟩⟩
end Go.Proofs.YtfihpiommicdbaaDoor
