/- The document's arena (cloisterref6), New of its memory: contracts. No condition. -/
import Derived.Test.YtenbkdmaiooldaaArnF
import Derived.Test.YtenbkdmaiooldaaArnA
namespace Go.Proofs.Ytenbkdmaiooldaa
open Go.RowKit Go.Cl
set_option linter.unusedVariables false
set_option linter.unusedSimpArgs false
attribute [local go_sem] lt_add_one' blk_alloc_past blk_alloc_at blk_drew blk_setCell_ne

/-- The document's arena. -/
def RArnIs (w : World) (a n base pages given : Nat) (closed : Bool) : Prop :=
  blk w a = some (.cells #[.pointer (some ⟨n, 0, none⟩), .int .u32 base, .int .i64 pages, .int .i64 given, .bool closed] 111 (0, 0))
theorem RArnIs.frame {S : Nat → Prop} {w w' : World} {a n base pages given : Nat} {closed : Bool} (h : RArnIs w a n base pages given closed) (hc : Chg S w w') (hs : ¬ S a) : RArnIs w' a n base pages given closed := hc.blk' h hs

set_option maxHeartbeats 1000000 in
set_option maxRecDepth 100000 in
theorem raNew_ok {w : World} {bs b R : Nat} {qs : List (Option Nat)} {f : Nat → Int} (h : RefIs w bs b R qs f) {base pages : Nat} (hb0 : base < 4294967296) (hok : arenaOk qs.length base pages) :
    Calls Try.prog 51 #[.pointer (some ⟨b, 0, none⟩), .int .u32 base, .int .i64 pages] w fun e w' => ∃ a, e = .returned (.tuple #[.pointer (some ⟨a, 0, none⟩), .int .i64 0]) ∧ w.heap.size ≤ a ∧ RArnIs w' a b base pages 0 false ∧ Chg (fun _ => False) w w' := by
  have hf := h.few
  have p0 := cell_of_blk h.st 0
  obtain ⟨L, hL⟩ : ∃ L, L = qs.length := ⟨_, rfl⟩
  rw [← hL] at hf p0 hok
  obtain ⟨k1, k2, k3, k4⟩ := hok
  obtain ⟨q, hq⟩ : ∃ q : Nat, q = base / 4096 := ⟨_, rfl⟩
  have q1 : ((base : Int) % 4096 != 0) = false := by simp [k1]
  have q1' : (base : Int).tmod 4096 = (base : Int) % 4096 := Int.tmod_eq_emod_of_nonneg (by omega)
  have q2 : ¬ ((pages : Int) < 0) := by omega
  have q3 : (base : Int).tdiv 4096 = (q : Int) := by rw [Int.tdiv_eq_ediv_of_nonneg (by omega)]; omega
  have q3' : (base : Int) / 4096 = (q : Int) := by omega
  have w1 : IntKind.u32.wrap (q : Int) = (q : Int) := by rw [IntKind.wrap_u32]; omega
  have w2 : IntKind.i64.wrap (q : Int) = (q : Int) := by rw [IntKind.wrap_i64]; omega
  have w3 : IntKind.i64.wrap ((L : Int) - (q : Int)) = (L : Int) - (q : Int) := by rw [IntKind.wrap_i64]; omega
  have q4 : ¬ ((L : Int) < (q : Int)) := by omega
  have q5 : ¬ ((L : Int) - (q : Int) < (pages : Int)) := by omega
  have q6 : q ≤ L := by omega
  clear h hL k1 k2 k3 k4 hq hf
  go_enter Try.func51, Try.ntmps51
  go_wp2
  go_ret2
  exact ⟨_, rfl, Nat.le_refl _, blk_alloc_at _ _ _ rfl, (Chg.refl _ _).alloc _⟩

set_option maxHeartbeats 1000000 in
set_option maxRecDepth 100000 in
theorem raNew_bad {w : World} {bs b R : Nat} {qs : List (Option Nat)} {f : Nat → Int} (h : RefIs w bs b R qs f) {base : Nat} {pages : Int} (hb0 : base < 4294967296) (hp : -9223372036854775808 ≤ pages ∧ pages ≤ 9223372036854775807) (hok : ¬ arenaOk qs.length base pages) :
    Calls Try.prog 51 #[.pointer (some ⟨b, 0, none⟩), .int .u32 base, .int .i64 pages] w fun e w' => e = .returned (.tuple #[.pointer none, .int .i64 60]) ∧ w = w' := by
  have hf := h.few
  have p0 := cell_of_blk h.st 0
  obtain ⟨L, hL⟩ : ∃ L, L = qs.length := ⟨_, rfl⟩
  rw [← hL] at hf p0 hok
  obtain ⟨q, hq⟩ : ∃ q : Nat, q = base / 4096 := ⟨_, rfl⟩
  have q1' : (base : Int).tmod 4096 = (base : Int) % 4096 := Int.tmod_eq_emod_of_nonneg (by omega)
  have q3 : (base : Int).tdiv 4096 = (q : Int) := by rw [Int.tdiv_eq_ediv_of_nonneg (by omega)]; omega
  have q3' : (base : Int) / 4096 = (q : Int) := by omega
  have w1 : IntKind.u32.wrap (q : Int) = (q : Int) := by rw [IntKind.wrap_u32]; omega
  have w2 : IntKind.i64.wrap (q : Int) = (q : Int) := by rw [IntKind.wrap_i64]; omega
  have w3 : IntKind.i64.wrap ((L : Int) - (q : Int)) = (L : Int) - (q : Int) := by rw [IntKind.wrap_i64]; omega
  unfold arenaOk at hok
  obtain ⟨hp1, hp2⟩ := hp
  clear h hL
  by_cases g1 : (base : Int) % 4096 = 0
  · have q1 : ((base : Int) % 4096 != 0) = false := by simp [g1]
    by_cases g2 : pages < 0
    · clear hok hf hq g1
      go_enter Try.func51, Try.ntmps51
      go_wp2
      go_ret2
      exact ⟨rfl, rfl⟩
    · by_cases g3 : (L : Int) < (q : Int)
      · clear hok hf hq g1
        go_enter Try.func51, Try.ntmps51
        go_wp2
        go_ret2
        exact ⟨rfl, rfl⟩
      · have g4 : (L : Int) - (q : Int) < pages := by
          by_cases h : (L : Int) - (q : Int) < pages
          · exact h
          · exact (hok ⟨g1, by omega, by omega, by omega⟩).elim
        clear hok hf hq g1
        go_enter Try.func51, Try.ntmps51
        go_wp2
        go_ret2
        exact ⟨rfl, rfl⟩
  · have q1 : ((base : Int) % 4096 != 0) = true := by simp [g1]
    clear hok hf hq g1
    go_enter Try.func51, Try.ntmps51
    go_wp2
    go_ret2
    exact ⟨rfl, rfl⟩

theorem raSeal_ok {w : World} {a n base pages given : Nat} {closed : Bool} (h : RArnIs w a n base pages given closed) : Calls Try.prog 53 #[.pointer (some ⟨a, 0, none⟩)] w fun e w' => e = .returned (.tuple #[]) ∧ RArnIs w' a n base pages given true ∧ Chg (fun i => i = a) w w' := by
  have hl := blk_lt h
  have h4 := cell_of_blk h 4
  have z4 := frozen_of_blk h 4
  have H := Lib.hid h
  clear h
  go_enter Try.func53, Try.ntmps53
  go_wp2
  go_end0
  refine ⟨rfl, ?_, (Chg.refl (fun i => i = a) w).setCell (p := ⟨a, 4, none⟩) (fun _ => rfl) _⟩
  unfold RArnIs
  rw [blk_setCell_eq, show blk w a = _ from H.out]
  simp [objSet]

set_option maxHeartbeats 1000000 in
theorem raLeft_ok {w : World} {a n base pages given : Nat} {closed : Bool} (h : RArnIs w a n base pages given closed) (h1 : given ≤ pages) (h2 : pages ≤ 4096) : Calls Try.prog 56 #[.pointer (some ⟨a, 0, none⟩)] w fun e w' => e = .returned (.int .i64 ((pages : Int) - given)) ∧ Chg (fun _ => False) w w' := by
  have hl := blk_lt h
  have c2 := cell_of_blk h 2
  have c3 := cell_of_blk h 3
  have w3 : IntKind.i64.wrap ((pages : Int) - (given : Int)) = (pages : Int) - (given : Int) := by rw [IntKind.wrap_i64]; omega
  clear h
  go_enter Try.func56, Try.ntmps56
  go_wp2
  go_quiet (fail)
  go_wp2
  go_ret
  exact ⟨rfl, chg_drewN (Chg.refl _ _) _⟩

set_option maxHeartbeats 1000000 in
set_option maxRecDepth 100000 in
theorem raHolds_ok {w : World} {a n base pages given : Nat} {closed : Bool} (h : RArnIs w a n base pages given closed) (hb : base < 4294967296) (hb4 : base % 4096 = 0) (h2 : pages ≤ 4096) {addr : Nat} (ha : addr < 4294967296) :
    Calls Try.prog 57 #[.pointer (some ⟨a, 0, none⟩), .int .u32 addr] w fun e w' => e = .returned (.bool (decide (base ≤ addr ∧ addr < base + pages * 4096))) ∧ w = w' := by
  have hl := blk_lt h
  have c1 := cell_of_blk h 1
  have c2 := cell_of_blk h 2
  obtain ⟨q, hq⟩ : ∃ q : Nat, q = base / 4096 := ⟨_, rfl⟩
  obtain ⟨p, hp⟩ : ∃ p : Nat, p = addr / 4096 := ⟨_, rfl⟩
  have q3 : (base : Int).tdiv 4096 = (q : Int) := by rw [Int.tdiv_eq_ediv_of_nonneg (by omega)]; omega
  have q3' : (base : Int) / 4096 = (q : Int) := by omega
  have p3 : (addr : Int).tdiv 4096 = (p : Int) := by rw [Int.tdiv_eq_ediv_of_nonneg (by omega)]; omega
  have p3' : (addr : Int) / 4096 = (p : Int) := by omega
  have w1 : IntKind.u32.wrap (q : Int) = (q : Int) := by rw [IntKind.wrap_u32]; omega
  have w2 : IntKind.i64.wrap (q : Int) = (q : Int) := by rw [IntKind.wrap_i64]; omega
  have w3 : IntKind.u32.wrap (p : Int) = (p : Int) := by rw [IntKind.wrap_u32]; omega
  have w4 : IntKind.i64.wrap (p : Int) = (p : Int) := by rw [IntKind.wrap_i64]; omega
  have w5 : IntKind.i64.wrap ((q : Int) + (pages : Int)) = (q : Int) + (pages : Int) := by rw [IntKind.wrap_i64]; omega
  clear h
  by_cases g1 : q ≤ p
  · have g1' : (q : Int) ≤ (p : Int) := by omega
    by_cases g2 : p < q + pages
    · have g2' : (p : Int) < (q : Int) + (pages : Int) := by omega
      rw [decide_eq_true (show base ≤ addr ∧ addr < base + pages * 4096 by omega)]
      clear g1 g2 hq hp
      go_enter Try.func57, Try.ntmps57
      go_wp2
      go_ret
      exact ⟨rfl, rfl⟩
    · have g2' : ¬ (p : Int) < (q : Int) + (pages : Int) := by omega
      rw [decide_eq_false (show ¬ (base ≤ addr ∧ addr < base + pages * 4096) by omega)]
      clear g1 g2 hq hp
      go_enter Try.func57, Try.ntmps57
      go_wp2
      go_ret
      exact ⟨rfl, rfl⟩
  · have g1' : ¬ (q : Int) ≤ (p : Int) := by omega
    rw [decide_eq_false (show ¬ (base ≤ addr ∧ addr < base + pages * 4096) by omega)]
    clear g1 hq hp
    go_enter Try.func57, Try.ntmps57
    go_wp2
    go_ret
    exact ⟨rfl, rfl⟩

theorem raTake_sealed {w : World} {a n base pages given : Nat} (h : RArnIs w a n base pages given true) : Calls Try.prog 52 #[.pointer (some ⟨a, 0, none⟩)] w fun e w' => e = .returned (.tuple #[.int .u32 0, .int .i64 62]) ∧ w = w' := by
  have hl := blk_lt h
  have c4 := cell_of_blk h 4
  clear h
  go_enter Try.func52, Try.ntmps52
  go_wp2
  go_ret2
  exact ⟨rfl, rfl⟩

set_option maxHeartbeats 1000000 in
theorem raTake_full {w : World} {a n base pages given : Nat} (h : RArnIs w a n base pages given false) (hg : pages ≤ given) : Calls Try.prog 52 #[.pointer (some ⟨a, 0, none⟩)] w fun e w' => e = .returned (.tuple #[.int .u32 0, .int .i64 61]) ∧ Chg (fun _ => False) w w' := by
  have hl := blk_lt h
  have c2 := cell_of_blk h 2
  have c3 := cell_of_blk h 3
  have c4 := cell_of_blk h 4
  have g1 : (pages : Int) ≤ (given : Int) := by omega
  clear h hg
  go_enter Try.func52, Try.ntmps52
  go_wp2
  go_quiet (fail)
  go_wp2
  go_ret2
  exact ⟨rfl, chg_drewN (Chg.refl _ _) _⟩

set_option maxHeartbeats 2000000 in
set_option maxRecDepth 100000 in
theorem raTake_ok {w : World} {bs b R a base pages given : Nat} {qs : List (Option Nat)} {f : Nat → Int} (h : RArnIs w a b base pages given false) (hm : RefIs w bs b R qs f) (hbs : bs ≤ w.heap.size) (hna : ¬ RefFoot b R qs a) (ht : given < pages) (hp : pages ≤ 4096) (hbp : base + pages * 4096 ≤ qs.length * 4096) :
    Calls Try.prog 52 #[.pointer (some ⟨a, 0, none⟩)] w fun e w' => e = .returned (.tuple #[.int .u32 ((base : Int) + given * 4096), .int .i64 0]) ∧ RArnIs w' a b base pages (given + 1) false ∧
      ∃ qs', RefIs w' bs b R qs' (put f (base + given * 4096) 4096 (fun _ => 0)) ∧ qs'.length = qs.length ∧ Chg (fun i => RefFoot b R qs i ∨ i = a) w w' ∧ ∀ i, RefFoot b R qs' i → RefFoot b R qs i ∨ w.heap.size ≤ i := by
  have hl := blk_lt h
  have c0 := cell_of_blk h 0
  have c1 := cell_of_blk h 1
  have c2 := cell_of_blk h 2
  have c3 := cell_of_blk h 3
  have c4 := cell_of_blk h 4
  have z3 := frozen_of_blk h 3
  have hf := hm.few
  have g1 : ¬ (pages : Int) ≤ (given : Int) := by omega
  obtain ⟨at_, hat⟩ : ∃ x : Nat, x = base + given * 4096 := ⟨_, rfl⟩
  have w1 : IntKind.u32.wrap (given : Int) = (given : Int) := by rw [IntKind.wrap_u32]; omega
  have w2 : IntKind.u32.wrap ((given : Int) * 4096) = (given : Int) * 4096 := by rw [IntKind.wrap_u32]; omega
  have w3 : IntKind.u32.wrap ((base : Int) + (given : Int) * 4096) = (at_ : Int) := by rw [IntKind.wrap_u32]; omega
  have w4 : IntKind.i64.wrap ((given : Int) + 1) = (given : Int) + 1 := by rw [IntKind.wrap_i64]; omega
  have H := Lib.hid h
  have HM := Lib.hid hm
  have HAT := Lib.hid hat
  have HBS := Lib.hid hbs
  have HNA := Lib.hid hna
  have HT := Lib.hid (And.intro ht (And.intro hp hbp))
  rw [show ((base : Int) + given * 4096) = (at_ : Int) by omega, ← hat]
  clear h hm hat hbs hna ht hp hbp hf
  go_enter Try.func52, Try.ntmps52
  go_wp2
  go_quiet (fail)
  obtain ⟨wp, hwp⟩ : ∃ wp, wp = w.drewN nq := ⟨_, rfl⟩
  have hcp : Chg (fun _ => False) w wp := by rw [hwp]; exact chg_drewN (Chg.refl _ _) _
  rw [← hwp]
  have h1 := H.out.frame hcp id
  have HCP := Lib.hid hcp
  clear hwp hl c0 c1 c2 c3 c4 z3 hcp
  have hl := blk_lt h1
  have c0 := cell_of_blk h1 0
  have c1 := cell_of_blk h1 1
  have c3 := cell_of_blk h1 3
  clear h1
  go_wp2
  go_quiet (fail)
  obtain ⟨wq, hwq⟩ : ∃ wq, wq = wp.drewN nq := ⟨_, rfl⟩
  have hcq : Chg (fun _ => False) w wq := by rw [hwq]; exact HCP.out.trans (chg_drewN (Chg.refl _ _) _) fun _ _ => id
  rw [← hwq]
  have h2 := H.out.frame hcq id
  have HCQ := Lib.hid hcq
  have H2 := Lib.hid h2
  clear hwq hl c0 c1 c3 hcq
  have hl := blk_lt h2
  have c3 := cell_of_blk h2 3
  have z3 := frozen_of_blk h2 3
  clear h2
  go_upto_region 7 with (fail)
  obtain ⟨w3, hw3⟩ : ∃ w3, w3 = wq.setCell ⟨a, 3, none⟩ (.int .i64 ((given : Int) + 1)) := ⟨_, rfl⟩
  have hc3 : Chg (fun i => i = a) w w3 := by rw [hw3]; exact Chg.setCell (S := fun i => i = a) (HCQ.out.mono fun _ _ h => h.elim) (p := ⟨a, 3, none⟩) (fun _ => rfl) _
  have h3 : RArnIs w3 a b base pages (given + 1) false := by
    unfold RArnIs
    rw [hw3, blk_setCell_eq, show blk wq a = _ from H2.out]
    simp [objSet]
  rw [← hw3]
  have HC3 := Lib.hid hc3
  have H3 := Lib.hid h3
  have c0 := cell_of_blk h3 0
  have hl3 := blk_lt h3
  have hm3 := HM.out.frame hc3 (fun i hi e => HNA.out (e ▸ hi))
  have HFL := Lib.hid (show Calls Try.prog 54 #[.pointer (some ⟨b, 0, none⟩), .int .u32 (at_ : Int), .int .i64 4096, .int .u8 0] w3 fun e w' => e = .returned (.int .i64 0) ∧ RefGoes w3 w' bs b R qs (put f at_ 4096 fun _ => 0) from rFill_ok hm3 (Nat.le_trans HBS.out hc3.size) (a := at_) (n := 4096) (by have := HT.out; have := HAT.out; omega) (by omega))
  clear hw3 hc3 h3 hm3 hl c3 z3
  go_wp2_with fail
  refine HFL.out.mono ?_
  rintro e w4 ⟨rfl, qs', k1, k2, k3, k4⟩
  have K1 := Lib.hid k1
  have K2 := Lib.hid k2
  have K3 := Lib.hid k3
  have K4 := Lib.hid k4
  clear k1 k2 k3 k4 c0 hl3
  go_wp2
  go_ret2
  exact ⟨rfl, H3.out.frame K3.out HNA.out, qs', K1.out, K2.out, (HC3.out.mono fun _ _ h => .inr h).step K3.out (fun _ _ h => h) fun i hi h => .inl h, fun i hi => (K4.out i hi).imp id fun h => Nat.le_trans HC3.out.size h⟩
end Go.Proofs.Ytenbkdmaiooldaa
