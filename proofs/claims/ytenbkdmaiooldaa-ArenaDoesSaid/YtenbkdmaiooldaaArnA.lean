/- Contracts of package arena: New, Take, Left, Taken, Holds, Seal, Sealed, Memory. No condition. -/
import Derived.Test.YtenbkdmaiooldaaMemH
import Derived.BigQuiet
namespace Go.Proofs.Ytenbkdmaiooldaa
open Go.RowKit Go.Cl
open Go.Maps (Keyed)
open Go.ChangeMaps (setBlock)
set_option linter.unusedVariables false
set_option linter.unusedSimpArgs false
attribute [local go_sem] lt_add_one' blk_alloc_past blk_alloc_at blk_drew blk_setCell_ne blk_setBlock_ne blk_setBlock_eq cell_setBlock_ne frozen_setBlock_ne size_setBlock

theorem chg_drewN {S : Nat → Prop} {a w : World} (h : Chg S a w) (n : Nat) : Chg S a (w.drewN n) := ⟨h.os, h.tape, h.output, h.size, h.block⟩

/-- Block a is an arena. -/
def ArnIs (w : World) (a b base pages taken : Nat) (sealed : Bool) : Prop :=
  blk w a = some (.cells #[ptrV b, .int .u32 base, .int .i64 pages, .int .i64 taken, .bool sealed] 103 (0, 0))

theorem ArnIs.facts {w : World} {a b base pages taken : Nat} {sealed : Bool} (h : ArnIs w a b base pages taken sealed) :
    a < w.heap.size ∧ w.cell? ⟨a, 0, none⟩ = some (.pointer (some ⟨b, 0, none⟩)) ∧ w.cell? ⟨a, 1, none⟩ = some (.int .u32 base) ∧ w.cell? ⟨a, 2, none⟩ = some (.int .i64 pages) ∧ w.cell? ⟨a, 3, none⟩ = some (.int .i64 taken) ∧ w.cell? ⟨a, 4, none⟩ = some (.bool sealed) ∧ (∀ i, w.frozen? ⟨a, i, none⟩ = false) :=
  ⟨blk_lt h, cell_of_blk h 0, cell_of_blk h 1, cell_of_blk h 2, cell_of_blk h 3, cell_of_blk h 4, fun i => frozen_of_blk h i⟩

theorem ArnIs.frame {S : Nat → Prop} {w w' : World} {a b base pages taken : Nat} {sealed : Bool} (h : ArnIs w a b base pages taken sealed) (hc : Chg S w w') (hs : ¬ S a) : ArnIs w' a b base pages taken sealed := hc.blk' h hs

theorem ArnIs.foot {w : World} {a b base pages taken : Nat} {sealed : Bool} (h : ArnIs w a b base pages taken sealed) {b' m : Nat} {pg : List (Nat × Nat)} {mp : Nat} {f : Nat → Int} (hm : MemIs w b' m pg mp f) : ¬ Foot b' m pg a := by
  unfold ArnIs at h
  rintro (e | e | e)
  · rw [e, hm.st] at h
    simp at h
  · obtain ⟨es, clock, hb, _⟩ := hm.mp
    have h2 : blk w m = some (.map es clock) := hb
    rw [e, h2] at h
    simp at h
  · obtain ⟨q, hq, hqa⟩ := List.mem_map.1 e
    have := hm.pgs q hq
    rw [hqa, h] at this
    simp only [Option.some.injEq, Obj.cells.injEq] at this
    exact absurd this.2.1 (by decide)

def arenaOk (mp : Nat) (base pages : Int) : Prop := base % 4096 = 0 ∧ 0 ≤ pages ∧ pages ≤ mp ∧ base / 4096 + pages ≤ mp

set_option maxHeartbeats 1000000 in
set_option maxRecDepth 100000 in
theorem arn_new_ok {w : World} {b m : Nat} {pg : List (Nat × Nat)} {mp : Nat} {f : Nat → Int} (h : MemIs w b m pg mp f) {base pages : Nat} (hb0 : base < 4294967296) (hok : arenaOk mp base pages) :
    Calls Try.prog 19 #[ptrV b, .int .u32 base, .int .i64 pages] w fun e w' => ∃ a, e = .returned (.tuple #[.pointer (some ⟨a, 0, none⟩), .int .i64 0]) ∧ w.heap.size ≤ a ∧ ArnIs w' a b base pages 0 false ∧ Chg (fun _ => False) w w' := by
  have hp := h.size
  have P := pages_ok h
  have HP := Lib.hid P
  clear P h
  obtain ⟨k1, k2, k3, k4⟩ := hok
  have q1 : ((base : Int) % 4096 != 0) = false := by simp [k1]
  have q2 : ¬ ((pages : Int) < 0) := by omega
  have q3 : ¬ ((mp : Int) < pages) := by omega
  have q4 : ¬ ((mp : Int) < (base : Int) / 4096 + pages) := by omega
  have q5 : (pages : Int) ≤ mp := by omega
  have q6 : (base : Int) / 4096 + pages ≤ mp := by omega
  have q7 : mp ≤ 4096 := hp.2
  clear k1 k2 k3 k4 hp
  unfold ptrV at *
  go_enter Try.func19, Try.ntmps19
  go_wp2_with fail
  refine HP.out.mono ?_
  rintro e w1 ⟨rfl, rfl⟩
  go_wp2_with fail
  refine HP.out.mono ?_
  rintro e w1 ⟨rfl, rfl⟩
  go_wp2
  go_ret2
  exact ⟨w.heap.size, rfl, Nat.le_refl _, blk_alloc_at _ _ _ rfl, (Chg.refl _ _).alloc _⟩

set_option maxHeartbeats 1000000 in
set_option maxRecDepth 100000 in
theorem arn_new_nil (w : World) (base pages : Int) :
    Calls Try.prog 19 #[.pointer none, .int .u32 base, .int .i64 pages] w fun e w' => e = .returned (.tuple #[.pointer none, .int .i64 60]) ∧ w = w' := by
  go_enter Try.func19, Try.ntmps19
  go_wp2
  go_ret2
  exact ⟨rfl, rfl⟩

set_option maxHeartbeats 1000000 in
set_option maxRecDepth 100000 in
theorem arn_new_bad {w : World} {b m : Nat} {pg : List (Nat × Nat)} {mp : Nat} {f : Nat → Int} (h : MemIs w b m pg mp f) {base pages : Int} (hb : 0 ≤ base ∧ base < 4294967296) (hp : -9223372036854775808 ≤ pages ∧ pages ≤ 9223372036854775807) (hok : ¬ arenaOk mp base pages) :
    Calls Try.prog 19 #[ptrV b, .int .u32 base, .int .i64 pages] w fun e w' => e = .returned (.tuple #[.pointer none, .int .i64 60]) ∧ w = w' := by
  have hmp := h.size.2
  have P := pages_ok h
  have HP := Lib.hid P
  clear P h
  unfold arenaOk at hok
  unfold ptrV at *
  by_cases c1 : base % 4096 = 0
  · have q1 : (base % 4096 != 0) = false := by simp [c1]
    by_cases c2 : pages < 0
    · go_enter Try.func19, Try.ntmps19
      go_wp2
      go_ret2
      exact ⟨rfl, rfl⟩
    · by_cases c3 : (mp : Int) < pages
      · clear hok
        go_enter Try.func19, Try.ntmps19
        go_wp2_with fail
        refine HP.out.mono ?_
        rintro e w1 ⟨rfl, rfl⟩
        go_wp2
        go_ret2
        exact ⟨rfl, rfl⟩
      · have c4 : (mp : Int) < base / 4096 + pages := by omega
        clear hok
        go_enter Try.func19, Try.ntmps19
        go_wp2_with fail
        refine HP.out.mono ?_
        rintro e w1 ⟨rfl, rfl⟩
        go_wp2_with fail
        refine HP.out.mono ?_
        rintro e w1 ⟨rfl, rfl⟩
        go_wp2
        go_ret2
        exact ⟨rfl, rfl⟩
  · have q1 : (base % 4096 != 0) = true := by simp [c1]
    clear hok
    go_enter Try.func19, Try.ntmps19
    go_wp2
    go_ret2
    exact ⟨rfl, rfl⟩

set_option maxHeartbeats 1000000 in
set_option maxRecDepth 100000 in
theorem arn_taken {w : World} {a b base pages taken : Nat} {sealed : Bool} (h : ArnIs w a b base pages taken sealed) : Calls Try.prog 21 #[.pointer (some ⟨a, 0, none⟩)] w fun e w' => e = .returned (.int .i64 taken) ∧ w = w' := by
  obtain ⟨l, c0, c1, c2, c3, c4, cf⟩ := h.facts
  clear h
  go_enter Try.func21, Try.ntmps21
  go_wp2
  go_ret
  exact ⟨rfl, rfl⟩

set_option maxHeartbeats 1000000 in
set_option maxRecDepth 100000 in
theorem arn_sealed {w : World} {a b base pages taken : Nat} {sealed : Bool} (h : ArnIs w a b base pages taken sealed) : Calls Try.prog 33 #[.pointer (some ⟨a, 0, none⟩)] w fun e w' => e = .returned (.bool sealed) ∧ w = w' := by
  obtain ⟨l, c0, c1, c2, c3, c4, cf⟩ := h.facts
  clear h
  go_enter Try.func33, Try.ntmps33
  go_wp2
  go_ret
  exact ⟨rfl, rfl⟩

set_option maxHeartbeats 1000000 in
set_option maxRecDepth 100000 in
theorem arn_memory {w : World} {a b base pages taken : Nat} {sealed : Bool} (h : ArnIs w a b base pages taken sealed) : Calls Try.prog 55 #[.pointer (some ⟨a, 0, none⟩)] w fun e w' => e = .returned (ptrV b) ∧ w = w' := by
  obtain ⟨l, c0, c1, c2, c3, c4, cf⟩ := h.facts
  clear h
  go_enter Try.func55, Try.ntmps55
  go_wp2
  go_ret
  exact ⟨rfl, rfl⟩

set_option maxHeartbeats 1000000 in
set_option maxRecDepth 100000 in
theorem arn_seal {w : World} {a b base pages taken : Nat} {sealed : Bool} (h : ArnIs w a b base pages taken sealed) : Calls Try.prog 32 #[.pointer (some ⟨a, 0, none⟩)] w fun e w' => e = .returned (.tuple #[]) ∧ ArnIs w' a b base pages taken true ∧ Chg (fun i => i = a) w w' := by
  obtain ⟨l, c0, c1, c2, c3, c4, cf⟩ := h.facts
  have H := Lib.hid h
  clear h
  go_enter Try.func32, Try.ntmps32
  go_wp2
  go_end0
  refine ⟨rfl, ?_, (Chg.refl _ _).setCell (by simp) _⟩
  have := blk_setCell w a 4 (.bool true) _ _ _ H.out
  exact this

set_option maxHeartbeats 1000000 in
set_option maxRecDepth 100000 in
theorem arn_left {w : World} {a b base pages taken : Nat} {sealed : Bool} (h : ArnIs w a b base pages taken sealed) (h1 : taken ≤ pages) (h2 : pages ≤ 4096) : Calls Try.prog 22 #[.pointer (some ⟨a, 0, none⟩)] w fun e w' => e = .returned (.int .i64 ((pages : Int) - taken)) ∧ Chg (fun _ => False) w w' := by
  obtain ⟨l, c0, c1, c2, c3, c4, cf⟩ := h.facts
  clear h
  go_enter Try.func22, Try.ntmps22
  go_wp2
  go_region
  go_wp2
  go_ret
  exact ⟨rfl, (Chg.refl _ _).drew⟩

set_option maxHeartbeats 1000000 in
set_option maxRecDepth 100000 in
theorem arn_holds {w : World} {a b base pages taken : Nat} {sealed : Bool} (h : ArnIs w a b base pages taken sealed) (hb : base < 4294967296) (h2 : pages ≤ 4096) {addr : Nat} (ha : addr < 4294967296) :
    Calls Try.prog 23 #[.pointer (some ⟨a, 0, none⟩), .int .u32 addr] w fun e w' => e = .returned (.bool (decide (base ≤ addr ∧ addr < base + pages * 4096))) ∧ Chg (fun _ => False) w w' := by
  obtain ⟨l, c0, c1, c2, c3, c4, cf⟩ := h.facts
  clear h
  by_cases hle : base ≤ addr
  · have g1 : decide ((base : Int) ≤ (addr : Int)) = true := by simp; omega
    have e : decide (base ≤ addr ∧ addr < base + pages * 4096) = decide ((addr : Int) < (base : Int) + (pages : Int) * 4096) := by
      simp only [decide_eq_decide]
      omega
    rw [e]
    clear e
    go_enter Try.func23, Try.ntmps23
    go_wp2
    go_quiet (fail)
    go_wp2
    go_ret
    exact ⟨rfl, chg_drewN (Chg.refl _ _) _⟩
  · have g1 : decide ((base : Int) ≤ (addr : Int)) = false := by simp; omega
    have e : decide (base ≤ addr ∧ addr < base + pages * 4096) = false := by
      simp only [decide_eq_false_iff_not]
      omega
    rw [e]
    clear e
    go_enter Try.func23, Try.ntmps23
    go_wp2
    go_quiet (fail)
    go_wp2
    go_ret
    exact ⟨rfl, chg_drewN (Chg.refl _ _) _⟩

set_option maxHeartbeats 1000000 in
set_option maxRecDepth 100000 in
theorem arn_take_sealed {w : World} {a b base pages taken : Nat} (h : ArnIs w a b base pages taken true) : Calls Try.prog 20 #[.pointer (some ⟨a, 0, none⟩)] w fun e w' => e = .returned (.tuple #[.int .u32 0, .int .i64 62]) ∧ w = w' := by
  obtain ⟨l, c0, c1, c2, c3, c4, cf⟩ := h.facts
  clear h
  go_enter Try.func20, Try.ntmps20
  go_wp2
  go_ret2
  exact ⟨rfl, rfl⟩

set_option maxHeartbeats 1000000 in
set_option maxRecDepth 100000 in
theorem arn_take_full {w : World} {a b base pages : Nat} (h : ArnIs w a b base pages pages false) : Calls Try.prog 20 #[.pointer (some ⟨a, 0, none⟩)] w fun e w' => e = .returned (.tuple #[.int .u32 0, .int .i64 61]) ∧ Chg (fun _ => False) w w' := by
  obtain ⟨l, c0, c1, c2, c3, c4, cf⟩ := h.facts
  clear h
  go_enter Try.func20, Try.ntmps20
  go_wp2
  go_region
  go_wp2
  go_ret2
  exact ⟨rfl, (Chg.refl _ _).drew⟩

set_option maxHeartbeats 1000000 in
set_option maxRecDepth 100000 in
theorem arn_take_ok {w : World} {a b base pages taken : Nat} (h : ArnIs w a b base pages taken false) {m : Nat} {pg : List (Nat × Nat)} {mp : Nat} {f : Nat → Int} (hm : MemIs w b m pg mp f) (ht : taken < pages) (hbp : base + pages * 4096 ≤ mp * 4096) :
    Calls Try.prog 20 #[.pointer (some ⟨a, 0, none⟩)] w fun e w' => e = .returned (.tuple #[.int .u32 ((base : Int) + taken * 4096), .int .i64 0]) ∧ ArnIs w' a b base pages (taken + 1) false ∧
      ∃ pg', MemIs w' b m pg' mp (put f (base + taken * 4096) 4096 (fun _ => 0)) ∧ Chg (fun i => Foot b m pg i ∨ i = a) w w' ∧ ∀ i, Foot b m pg' i → Foot b m pg i ∨ w.heap.size ≤ i := by
  obtain ⟨l, c0, c1, c2, c3, c4, cf⟩ := h.facts
  have hmp := hm.size.2
  have hfa := h.foot hm
  have hne : ((taken : Int) = (pages : Int)) = False := by simp; omega
  have hne' : ¬ (taken = pages) := by omega
  have hF := fill_ok (hm.frame (Chg.refl (fun _ => False) w).drew.drew fun _ _ => id) (a := base + taken * 4096) (n := 4096) (bt := 0) (by omega) (by omega)
  rw [show ((base + taken * 4096 : Nat) : Int) = (base : Int) + taken * 4096 by omega] at hF
  have HF := Lib.hid hF
  have H := Lib.hid h
  have FA := Lib.hid hfa
  have HM := Lib.hid hm
  clear hF h hfa hm
  unfold ptrV at *
  go_enter Try.func20, Try.ntmps20
  go_wp2
  go_region
  go_wp2
  go_region
  go_wp2_with fail
  refine HF.out.mono ?_
  rintro e w' ⟨rfl, pg', h1, g1, f1⟩
  have h2 := H.out.frame (Chg.step (Chg.refl (fun _ => False) w).drew.drew g1 (fun _ _ h => h.elim) fun _ _ h => h) FA.out
  obtain ⟨l', d0, d1, d2, d3, d4, df⟩ := h2.facts
  have H1 := Lib.hid h1
  have G1 := Lib.hid g1
  have F1 := Lib.hid f1
  have H2 := Lib.hid h2
  clear h1 g1 f1 h2
  go_wp2
  go_ret2
  have hcs : Chg (fun i => i = a) w' (w'.setCell ⟨a, 3, none⟩ (.int .i64 ((taken : Int) + 1))) := (Chg.refl _ _).setCell (by simp) _
  have hna : ¬ Foot b m pg' a := fun e => by
    rcases F1.out a e with h | h
    · exact FA.out h
    · have : w.drew.drew.heap.size = w.heap.size := rfl
      omega
  refine ⟨rfl, ?_, pg', H1.out.frame hcs fun i hi e => hna (e ▸ hi), Chg.step (Chg.step (Chg.refl (fun _ => False) w).drew.drew G1.out (fun _ _ h => h.elim) fun _ _ h => h) hcs (fun _ _ h => .inl h) (fun _ _ h => .inr h), F1.out⟩
  have := blk_setCell w' a 3 (.int .i64 ((taken : Int) + 1)) _ _ _ H2.out
  exact this
end Go.Proofs.Ytenbkdmaiooldaa
