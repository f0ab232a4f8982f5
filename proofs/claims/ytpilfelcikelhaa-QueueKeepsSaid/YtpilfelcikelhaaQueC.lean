/- Ports: contracts of check, full, Stat, slices.Clone of bytes. No condition. -/
import Derived.Test.YtpilfelcikelhaaQueB
import Derived.BigRegion
namespace Go.Proofs.Ytpilfelcikelhaa
open Go.RowKit Go.Cl
set_option linter.unusedVariables false
set_option linter.unusedSimpArgs false
attribute [local go_sem] lt_add_one' blk_alloc_past blk_alloc_at blk_drew blk_setCell_ne

def checkE (q : QT) (n : Int) : Int := if q.size < n then 172 else if n % 4 = 0 then 0 else 170

theorem check_any {w : World} {b : Nat} {qv sv : Value} {q : QT} {s : PS} (h : PortIs w b qv sv q s) (oa : Option Addr) (n c : Nat) :
    Calls Try.prog 25 #[ptrV b, .slice oa n c] w fun e w' => e = .returned (.int .i64 (checkE q n)) ∧ w = w' := by
  obtain ⟨hb, _, _, _, _, _, f5, _⟩ := h.facts
  unfold ptrV
  by_cases h1 : q.size < n
  · go_enter Try.func25, Try.ntmps25
    go_wp2
    go_ret
    exact ⟨by simp [checkE, h1], rfl⟩
  · have e4 : (n : Int).tmod 4 = (n : Int) % 4 := Int.tmod_eq_emod_of_nonneg (by omega)
    by_cases h2 : (n : Int) % 4 = 0
    · have h3 : ((n : Int) % 4 != 0) = false := by simp [h2]
      have h3t : ((n : Int).tmod 4 != 0) = false := by rw [e4]; exact h3
      go_enter Try.func25, Try.ntmps25
      go_wp2
      go_ret
      exact ⟨by simp [checkE, h1, h2], rfl⟩
    · have h3 : ((n : Int) % 4 != 0) = true := by simp [h2]
      have h3t : ((n : Int).tmod 4 != 0) = true := by rw [e4]; exact h3
      go_enter Try.func25, Try.ntmps25
      go_wp2
      go_ret
      exact ⟨by simp [checkE, h1, h2], rfl⟩

def fullB (q : QT) (s : PS) : Bool := decide (1152921504606846976 ≤ s.acc) || (if q.flow then decide (q.depth ≤ (s.qs.length : Int) + s.ss.length) else decide (q.quota ≤ (s.ss.length : Int)))

theorem chg_drewN {S : Nat → Prop} {a w : World} (h : Chg S a w) (n : Nat) : Chg S a (w.drewN n) := ⟨h.os, h.tape, h.output, h.size, h.block⟩

theorem Fine.lens {q : QT} {s : PS} (h : Fine q s) : s.qs.length ≤ 32 ∧ s.ss.length ≤ 32 := by
  have h1 := h.may.d2; have h2 := h.dq; have h3 := h.may.u2
  refine ⟨by omega, ?_⟩
  cases hf : q.flow with
  | true => have := (h.fl hf).1; omega
  | false => have := h.nf hf; omega

set_option maxRecDepth 100000 in
theorem full_any {w : World} {b : Nat} {qv sv : Value} {q : QT} {s : PS} (h : PortIs w b qv sv q s) :
    Calls Try.prog 26 #[ptrV b] w fun e w' => e = .returned (.bool (fullB q s)) ∧ Chg (fun _ => False) w w' := by
  obtain ⟨hb, f0, _, _, _, _, _, f6, f7, f8, f9, f10⟩ := h.facts
  obtain ⟨oq, cq, rfl, _, hq2, _⟩ := h.rq.form
  obtain ⟨os, cs, rfl, _, hs2, _⟩ := h.rs.form
  obtain ⟨l1, l2⟩ := h.fine.lens
  unfold ptrV
  unfold fullB
  generalize s.qs.length = n1 at *
  generalize s.ss.length = n2 at *
  have HH := Lib.hid h
  clear h
  by_cases h1 : 1152921504606846976 ≤ s.acc
  · go_enter Try.func26, Try.ntmps26
    go_wp2
    all_goals (go_ret; exact ⟨by simp [h1], Chg.refl _ _⟩)
  · cases hf : q.flow with
    | true =>
      rw [hf] at f8
      go_enter Try.func26, Try.ntmps26
      go_wp2
      go_quiet (fail)
      go_wp2
      go_ret
      exact ⟨by simp [h1]; try omega, chg_drewN (Chg.refl _ _) _⟩
    | false =>
      rw [hf] at f8
      go_enter Try.func26, Try.ntmps26
      go_wp2
      go_quiet (fail)
      go_wp2
      go_ret
      exact ⟨by simp [h1]; try omega, chg_drewN (Chg.refl _ _) _⟩

def PS.statV (s : PS) : Value := .agg #[.int .i64 s.acc, .int .i64 s.rcv, .int .i64 s.qs.length, .int .i64 s.ss.length, .int .i64 s.lost]

set_option maxHeartbeats 1000000 in
set_option maxRecDepth 100000 in
theorem stat_any {w : World} {b : Nat} {qv sv : Value} {q : QT} {s : PS} (h : PortIs w b qv sv q s) :
    Calls Try.prog 16 #[ptrV b] w fun e w' => e = .returned s.statV ∧ Chg (fun _ => False) w w' := by
  obtain ⟨hb, f0, f1, f2, _, _, _, _, _, _, f9, f10⟩ := h.facts
  obtain ⟨oq, cq, rfl, hq1, hq2, _⟩ := h.rq.form
  obtain ⟨os, cs, rfl, hs1, hs2, _⟩ := h.rs.form
  unfold PS.statV
  unfold ptrV
  generalize s.qs.length = n1 at *
  generalize s.ss.length = n2 at *
  have hc : Chg (fun _ => False) w (w.alloc (.cells #[.int .i64 0, .int .i64 0, .int .i64 0, .int .i64 0, .int .i64 0] 48 (0, 0))) := (Chg.refl _ _).alloc _
  obtain ⟨_, _, _, _, _, _, _, _, _, _, _, _, _, _, _, _, _, _⟩ := lts hb
  have HC := Lib.hid hc
  clear hc h
  go_enter Try.func16, Try.ntmps16
  go_wp2
  go_region_held3 (fun w' => w'.cell? ⟨b, 0, none⟩ = some (.int .i64 s.acc) ∧ w'.cell? ⟨b, 1, none⟩ = some (.int .i64 s.rcv) ∧ w'.cell? ⟨b, 2, none⟩ = some (.int .i64 s.lost) ∧ w'.cell? ⟨b, 9, none⟩ = some (.slice oq n1 cq) ∧ w'.cell? ⟨b, 10, none⟩ = some (.slice os n2 cs)) (go_keep) (fail)
  go_wp2
  refine bodyPost_ret (v := .agg #[.int .i64 s.acc, .int .i64 s.rcv, .int .i64 n1, .int .i64 n2, .int .i64 s.lost]) (by simp [results, Try.results16, go_sem]) rfl ⟨rfl, ?_⟩
  exact ((Chg.refl _ _).alloc _).drew

theorem info5z : ∃ i, Try.prog.info? 5 = some i ∧ i.zero = some (.int .u8 0) ∧ i.size = 1 ∧ i.bytes = 1 := ⟨_, rfl, by kernel_rfl, by kernel_rfl, by kernel_rfl⟩

def u8s (xs : List Int) : List Value := xs.map (Value.int .u8)
theorem u8s_one (xs : List Int) : ∀ u ∈ u8s xs, u.oneCell' = true := fun u hu => by
  obtain ⟨b, _, rfl⟩ := List.mem_map.1 hu
  rfl
@[simp] theorem u8s_length (xs : List Int) : (u8s xs).length = xs.length := by simp [u8s]

/-- Bytes of a row of their own. -/
theorem BytesIs.of_row {w : World} {base : Nat} {v : Value} {xs : List Int} (h : w.ownsRow base 5 1 v xs.length (u8s xs)) : BytesIs w v xs := by
  rcases h.2 with ⟨rfl, h0⟩ | ⟨g, cap, cur, rfl, _, hh, hc, hm, hcs, hx⟩
  · exact .inl ⟨rfl, List.length_eq_zero_iff.1 h0⟩
  · refine .inr ⟨g, 0, cap, cur, (0, 0), rfl, hc, hm, hh, fun j b hb => ?_⟩
    have hj := (List.getElem?_eq_some_iff.1 hb).1
    have h1 : (u8s xs)[j]? = some (.int .u8 b) := by unfold u8s; rw [List.getElem?_map, hb]; rfl
    rw [← hx, List.getElem?_take_of_lt (by omega)] at h1
    simpa using h1

/-- Bytes as what is appended. -/
theorem BytesIs.src {w : World} {v : Value} {xs : List Int} (h : BytesIs w v xs) : ∃ oa c, v = .slice oa xs.length c ∧ SrcIs w 1 oa xs.length (u8s xs) ∧ xs.length ≤ c ∧ c ≤ maxLen ∧ (oa = none → c = 0) := by
  rcases h with ⟨rfl, rfl⟩ | ⟨g, o, cap, cur, fr, rfl, h1, h2, h3, h4⟩
  · exact ⟨none, 0, rfl, SrcIs.none, by simp, by simp, fun _ => rfl⟩
  · refine ⟨_, _, rfl, SrcIs.some (by simp) (u8s_one xs) fun j u hu => ?_, h1, h2, fun h => by cases h⟩
    unfold u8s at hu
    rw [List.getElem?_map] at hu
    obtain ⟨b, hb, rfl⟩ := Option.map_eq_some_iff.1 hu
    rw [addr_add, cell_of_blk' h3]
    exact h4 j b hb

set_option maxHeartbeats 1000000 in
set_option maxRecDepth 100000 in
theorem clone_any {w : World} {oa : Option Addr} {c : Nat} {xs : List Int} (hs : SrcIs w 1 oa xs.length (u8s xs)) (hc0 : oa = none → c = 0) (hn : xs.length ≤ 140737488355328) :
    Calls Try.prog 24 #[.slice oa xs.length c] w fun e w' => ∃ v, e = .returned v ∧ (v = .slice none 0 0 ↔ oa = none) ∧ w'.ownsRow w.heap.size 5 1 v xs.length (u8s xs) ∧ Chg (fun _ => False) w w' := by
  obtain ⟨i0, hi, hz0, hz1, hz2⟩ := info5z
  cases oa with
  | none =>
    obtain rfl := hc0 rfl
    have hx : xs = [] := by
      obtain ⟨_, _, ⟨_, h⟩ | ⟨ad, h, _⟩⟩ := hs
      · exact List.length_eq_zero_iff.1 h
      · cases h
    subst hx
    have hnil := @Lib.run_eql_slice_nil Try.prog
    go_enter Try.func24, Try.ntmps24
    go_wp2
    go_ret
    exact ⟨_, rfl, by simp, ⟨by simp [u8s], .inl ⟨rfl, rfl⟩⟩, Chg.refl _ _⟩
  | some ad =>
    have hnil := @Lib.run_eql_slice_nil Try.prog
    have hs2 : SrcIs (w.alloc (.cells #[] 5 (0, 0))) 1 (some ad) xs.length (u8s xs) := hs.frame ((Chg.refl _ _).alloc _) fun _ _ => id
    have hrow : (w.alloc (.cells #[] 5 (0, 0))).ownsRow w.heap.size 5 1 (.slice (some ⟨w.heap.size, 0, none⟩) 0 0) 0 [] := ⟨rfl, .inr ⟨_, 0, #[], rfl, Nat.le_refl _, blk_alloc_at _ _ _ rfl, Nat.le_refl _, by simp, rfl, rfl⟩⟩
    have hc : Chg (fun _ => False) w (w.alloc (.cells #[] 5 (0, 0))) := (Chg.refl _ _).alloc _
    have HC := Lib.hid hc
    have HS := Lib.hid hs2
    have HR := Lib.hid hrow
    clear hs hs2 hrow hc
    go_enter Try.func24, Try.ntmps24
    go_wp2_with (at_builtin; refine wpList_app rfl _ _ 37 rfl w.heap.size 5 i0 (.int .u8 0) 1 1 Try.underlying37 hi hz0 hz1 hz2 rfl (by decide) _ 0 [] rfl HR.out _ xs.length c (u8s xs) rfl HS.out ?_ ?_ ?_ ?_ ?_)
    · exact hc0
    · unfold maxLen; omega
    · omega
    · exact HC.out.size
    · intro v' w' hown hgrow hlie
      have HO := Lib.hid hown
      have HG := Lib.hid hgrow
      have HL := Lib.hid hlie
      clear hown hgrow hlie
      go_wp2
      go_ret
      refine ⟨_, rfl, ?_, ?_, HC.out.trans (Chg.of_grown HG.out) fun i hi h => ?_⟩
      · constructor
        · rintro rfl
          rcases HL.out with h | h <;> cases h
        · intro h; cases h
      · simpa using HO.out
      · simp [Value.ownBlock] at h
        omega
end Go.Proofs.Ytpilfelcikelhaa
