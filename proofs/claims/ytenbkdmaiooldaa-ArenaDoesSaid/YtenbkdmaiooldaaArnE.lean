/- The document's memory: contracts of New, At, Set, place, Fill, Read. No condition. -/
import Derived.Test.YtenbkdmaiooldaaArnD
import Derived.Test.YtenbkdmaiooldaaLibApp
namespace Go.Proofs.Ytenbkdmaiooldaa
open Go.RowKit Go.Cl
set_option linter.unusedVariables false
set_option linter.unusedSimpArgs false
attribute [local go_sem] lt_add_one' blk_alloc_past blk_alloc_at blk_drew blk_setCell_ne

theorem nil_nil (w : World) : (binOp .eql 58 (.slice none 0 0) (.slice none 0 0)).run Try.prog w = .ok (.bool true) w := by kernel_rfl
theorem some_nil (g n c : Nat) (w : World) : (binOp .eql 58 (.slice (some ⟨g, 0, none⟩) n c) (.slice none 0 0)).run Try.prog w = .ok (.bool false) w := by kernel_rfl

set_option maxHeartbeats 1000000 in
set_option maxRecDepth 100000 in
theorem rAt_ok {w : World} {base b R : Nat} {qs : List (Option Nat)} {f : Nat → Int} (h : RefIs w base b R qs f) {a : Nat} (ha : a < qs.length * 4096) :
    Calls Try.prog 82 #[.pointer (some ⟨b, 0, none⟩), .int .i64 a] w fun e w' => e = .returned (.int .u8 (f a)) ∧ w = w' := by
  have hf := h.few
  obtain ⟨k, hk⟩ : ∃ k, k = a / 4096 := ⟨_, rfl⟩
  obtain ⟨i, hi⟩ : ∃ i, i = a % 4096 := ⟨_, rfl⟩
  have hkl : k < qs.length := by omega
  have hi4 : i < 4096 := by omega
  have hai : a = k * 4096 + i := by omega
  obtain ⟨q, hq⟩ : ∃ q, qs[k]? = some q := ⟨_, List.getElem?_eq_getElem hkl⟩
  have hb0 := cell_of_blk h.st 0
  have hp := h.at hq
  have e1 : (a : Int).tdiv 4096 = (k : Int) := by rw [Int.tdiv_eq_ediv_of_nonneg (by omega)]; omega
  have e1' : (a : Int) / 4096 = (k : Int) := by omega
  have e2 : (a : Int).tmod 4096 = (i : Int) := by rw [Int.tmod_eq_emod_of_nonneg (by omega)]; omega
  have e2' : (a : Int) % 4096 = (i : Int) := by omega
  have e3 : IntKind.i64.wrap (k : Int) = (k : Int) := by rw [IntKind.wrap_i64]; omega
  have e4 : IntKind.i64.wrap (i : Int) = (i : Int) := by rw [IntKind.wrap_i64]; omega
  have hkl' : (k : Int) < (qs.length : Int) := by omega
  have hi4' : (i : Int) < 4096 := by omega
  cases q with
  | none =>
    have hz := h.zero k hq i hi4
    rw [← hai] at hz
    rw [hz]
    have nn := nil_nil w
    clear h hk hi hai hq hz hf
    unfold pageV at hp
    go_enter Try.func82, Try.ntmps82
    go_wp2
    go_ret
    exact ⟨rfl, rfl⟩
  | some g =>
    have hc := h.byteAt hq hi4
    rw [← hai] at hc
    generalize f a = x at *
    have nn := some_nil g 4096 4096 w
    clear h hk hi hai hq hf
    unfold pageV at hp
    go_enter Try.func82, Try.ntmps82
    go_wp2
    go_ret
    exact ⟨rfl, rfl⟩

set_option maxHeartbeats 1000000 in
set_option maxRecDepth 100000 in
theorem rplace_ok {w : World} {base b R : Nat} {qs : List (Option Nat)} {f : Nat → Int} (h : RefIs w base b R qs f) (a n : Int) (ha0 : 0 ≤ a) (ha : a ≤ 4294967295) (hn : -9223372036854775808 ≤ n ∧ n ≤ 9223372036854775807) :
    Calls Try.prog 80 #[.pointer (some ⟨b, 0, none⟩), .int .u32 a, .int .i64 n] w fun e w' => e = .returned (.int .i64 (placeE qs.length a n)) ∧ w = w' := by
  have hf := h.few
  have hb0 := cell_of_blk h.st 0
  obtain ⟨hn1, hn2⟩ := hn
  obtain ⟨L, hL⟩ : ∃ L, L = qs.length := ⟨_, rfl⟩
  rw [← hL] at hf hb0 ⊢
  obtain ⟨hf1, hf2⟩ := hf
  have w1 : IntKind.i64.wrap ((L : Int) * 4096) = (L : Int) * 4096 := by rw [IntKind.wrap_i64]; omega
  have w2 : IntKind.i64.wrap a = a := by rw [IntKind.wrap_i64]; omega
  clear h hL
  have IN : ∀ ok : Bool, 0 ≤ n → ok = decide (n ≤ (L : Int) * 4096 ∧ a ≤ (L : Int) * 4096 - n) → Calls Try.prog 91 #[.pointer (some ⟨b, 0, none⟩), .int .u32 a, .int .i64 n] w fun e w' => e = .returned (.bool ok) ∧ w = w' := by
    intro ok h0 hok
    by_cases g2 : n ≤ (L : Int) * 4096
    · have w3 : IntKind.i64.wrap ((L : Int) * 4096 - n) = (L : Int) * 4096 - n := by rw [IntKind.wrap_i64]; omega
      by_cases g3 : a ≤ (L : Int) * 4096 - n
      · rw [decide_eq_true ⟨g2, g3⟩] at hok
        subst hok
        go_enter Try.func91, Try.ntmps91
        go_wp2
        go_ret
        exact ⟨rfl, rfl⟩
      · rw [decide_eq_false (fun h => g3 h.2)] at hok
        subst hok
        go_enter Try.func91, Try.ntmps91
        go_wp2
        go_ret
        exact ⟨rfl, rfl⟩
    · rw [decide_eq_false (fun h => g2 h.1)] at hok
      subst hok
      go_enter Try.func91, Try.ntmps91
      go_wp2
      go_ret
      exact ⟨rfl, rfl⟩
  have HIN := Lib.hid IN
  clear IN w1 w2
  by_cases g1 : n < 0
  · have e : placeE L a n = 20 := by simp [placeE, g1]
    rw [e]
    clear e
    go_enter Try.func80, Try.ntmps80
    go_wp2
    go_ret
    exact ⟨rfl, rfl⟩
  · by_cases g2 : n ≤ (L : Int) * 4096 ∧ a ≤ (L : Int) * 4096 - n
    · have HI := Lib.hid (HIN.out true (by omega) (decide_eq_true g2).symm)
      have e : placeE L a n = 0 := by unfold placeE; rw [if_neg g1, if_neg (by omega)]
      rw [e]
      clear e g2
      go_enter Try.func80, Try.ntmps80
      go_wp2_with fail
      refine HI.out.mono ?_
      rintro e w' ⟨rfl, rfl⟩
      go_wp2
      go_ret
      exact ⟨rfl, rfl⟩
    · have HI := Lib.hid (HIN.out false (by omega) (decide_eq_false g2).symm)
      have e : placeE L a n = 22 := by unfold placeE; rw [if_neg g1, if_pos (by omega)]
      rw [e]
      clear e g2
      go_enter Try.func80, Try.ntmps80
      go_wp2_with fail
      refine HI.out.mono ?_
      rintro e w' ⟨rfl, rfl⟩
      go_wp2
      go_ret
      exact ⟨rfl, rfl⟩

set_option maxHeartbeats 2000000 in
set_option maxRecDepth 100000 in
theorem rSet_ok {w : World} {base b R : Nat} {qs : List (Option Nat)} {f : Nat → Int} (h : RefIs w base b R qs f) (hbs : base ≤ w.heap.size) {a : Nat} (ha : a < qs.length * 4096) {x : Int} (hx : 0 ≤ x ∧ x ≤ 255) :
    Calls Try.prog 81 #[.pointer (some ⟨b, 0, none⟩), .int .i64 a, .int .u8 x] w fun e w' => e = .returned (.tuple #[]) ∧ RefGoes w w' base b R qs (setF f a x) := by
  have hf := h.few
  obtain ⟨k, hk⟩ : ∃ k, k = a / 4096 := ⟨_, rfl⟩
  obtain ⟨i, hi⟩ : ∃ i, i = a % 4096 := ⟨_, rfl⟩
  have hkl : k < qs.length := by omega
  have hi4 : i < 4096 := by omega
  have hai : a = k * 4096 + i := by omega
  have HAI := Lib.hid hai
  obtain ⟨q, hq⟩ : ∃ q, qs[k]? = some q := ⟨_, List.getElem?_eq_getElem hkl⟩
  have hb0 := cell_of_blk h.st 0
  have hp := h.at hq
  have hpz := frozen_of_blk h.row k
  have hrl := blk_lt h.row
  have hbl := blk_lt h.st
  have e1 : (a : Int).tdiv 4096 = (k : Int) := by rw [Int.tdiv_eq_ediv_of_nonneg (by omega)]; omega
  have e1' : (a : Int) / 4096 = (k : Int) := by omega
  have e2 : (a : Int).tmod 4096 = (i : Int) := by rw [Int.tmod_eq_emod_of_nonneg (by omega)]; omega
  have e2' : (a : Int) % 4096 = (i : Int) := by omega
  have e3 : IntKind.i64.wrap (k : Int) = (k : Int) := by rw [IntKind.wrap_i64]; omega
  have e4 : IntKind.i64.wrap (i : Int) = (i : Int) := by rw [IntKind.wrap_i64]; omega
  have hkl' : (k : Int) < (qs.length : Int) := by omega
  have hi4' : (i : Int) < 4096 := by omega
  have H := Lib.hid h
  have HX := Lib.hid hx
  have HI4 := Lib.hid hi4
  have HBS := Lib.hid hbs
  cases q with
  | some g =>
    have hz := frozen_of_blk (h.pg k g hq).1 i
    have hgl := blk_lt (h.pg k g hq).1
    have hc := h.byteAt hq hi4
    have HQ := Lib.hid hq
    have nn := some_nil g 4096 4096 w
    generalize f (k * 4096 + i) = y0 at hc
    clear h hk hi hai hq hf hx hbs hpz hrl
    unfold pageV at hp
    go_enter Try.func81, Try.ntmps81
    go_wp2
    go_end0
    refine ⟨rfl, qs, ?_, rfl, (Chg.refl _ w).setCell (p := ⟨g, i, none⟩) (fun _ => .inr (.inr (List.mem_of_getElem? HQ.out))) _, fun j hj => .inl hj⟩
    rw [HAI.out]
    exact H.out.put HQ.out HI4.out HX.out
  | none =>
    have HQ := Lib.hid hq
    have nn := nil_nil w
    have HMK := Lib.hid (fun (wy : World) => (show (Instr.makeSlice 58 (.int .i64 4096) (.int .i64 4096)).run Try.prog wy = .ok (.slice (some ⟨wy.heap.size, 0, none⟩) 4096 4096) (wy.alloc (.cells (rowCells (fun _ => 0) 4096).toArray 5 (0, 0))) from make_bytes 4096 (by omega) wy))
    obtain ⟨Z, hZ⟩ : ∃ Z, Z = (rowCells (fun _ => 0) 4096).toArray := ⟨_, rfl⟩
    have HZ := Lib.hid hZ
    rw [← hZ] at HMK
    have hmk := HMK.out
    clear h hk hi hai hq hf hx hbs hZ
    unfold pageV at hp
    go_enter Try.func81, Try.ntmps81
    go_wp2
    go_region
    all_goals
      obtain ⟨w2, hw2⟩ : ∃ w2, w2 = ((w.setCell ⟨R, k, none⟩ (.slice (some ⟨w.heap.size, 0, none⟩) 4096 4096)).alloc (.cells Z 5 (0, 0))).drew := ⟨_, rfl⟩
      have hc2 : Chg (fun j => j = R) w w2 := by rw [hw2]; exact (((Chg.refl (fun j => j = R) w).setCell (p := ⟨R, k, none⟩) (fun _ => rfl) _).alloc _).drew
      have hr2 : blk w2 R = some (.cells ((qs.map pageV).set k (.slice (some ⟨w.heap.size, 0, none⟩) 4096 4096)).toArray 58 (0, 0)) := by
        rw [hw2, blk_drew, blk_alloc_past _ _ _ (by simpa using hrl), blk_setCell_eq, H.out.row]
        simp only [Option.map_some, objSet_cells, List.set_toArray]
      have hg2 : blk w2 w.heap.size = some (.cells (rowCells (fun _ => 0) 4096).toArray 5 (0, 0)) := by
        rw [hw2, blk_drew, ← HZ.out]
        exact blk_alloc_at _ _ _ (by simp)
      obtain ⟨N, hN⟩ : ∃ N, N = w.heap.size := ⟨_, rfl⟩
      have hR2 := H.out.grow HBS.out HQ.out hc2 hr2 hg2
      rw [← hN] at hR2
      have hkl2 : k < qs.length := (List.getElem?_eq_some_iff.1 HQ.out).1
      have hq2 : (qs.set k (some N))[k]? = some (some N) := List.getElem?_set_self hkl2
      have HR2 := Lib.hid hR2
      have HQ2 := Lib.hid hq2
      have HC2 := Lib.hid hc2
      have HNN := Lib.hid hN
      have p0 := cell_of_blk hR2.st 0
      have p1 := hR2.at hq2
      have p2 := hR2.byteAt hq2 HI4.out
      have p3 := frozen_of_blk (hR2.pg k N hq2).1 i
      have p4 := blk_lt (hR2.pg k N hq2).1
      unfold pageV at p1
      rw [List.length_set] at p0
      generalize f (k * 4096 + i) = y0 at p2
      rw [← hw2, ← hN]
      clear hw2 hc2 hr2 hg2 hN hR2 hq2 hb0 hp hpz hrl hbl hkl2 hmk nn HMK
      go_wp2
      go_end0
      refine ⟨rfl, RefGoes.after (qs1 := qs.set k (some N)) (by rw [List.length_set]) (HC2.out.mono fun j _ hj => .inr (.inl hj)) (fun j hj => ?_) ⟨qs.set k (some N), ?_, rfl, (Chg.refl _ w2).setCell (p := ⟨N, i, none⟩) (fun _ => .inr (.inr (List.mem_of_getElem? HQ2.out))) _, fun j hj => .inl hj⟩⟩
      · rcases hj with hj | hj | hj
        · exact .inl (.inl hj)
        · exact .inl (.inr (.inl hj))
        · rcases List.mem_or_eq_of_mem_set hj with hj | hj
          · exact .inl (.inr (.inr hj))
          · have : j = N := by simpa using hj
            exact .inr (by rw [this, HNN.out]; exact Nat.le_refl _)
      · rw [HAI.out]
        exact HR2.out.put HQ2.out HI4.out HX.out
end Go.Proofs.Ytenbkdmaiooldaa
