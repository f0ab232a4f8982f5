/- Hours: a time table in memory; contracts of its small functions (n, of, Start, Length, Owner). No condition. -/
import Derived.Test.YtkeoaeeneenkaaaProg
import Derived.Test.YtkeoaeeneenkaaaLibMore
import Derived.Deep.RegionHeld3
import Derived.Deep.DrawnRows
import Derived.Deep.QuietTactic
import Derived.BigQuiet
import Derived.Deep.CutRange
import Derived.Deep.CutBlock
import Derived.Deep.LoopGhost
import Derived.WalkSpells
import Derived.Lib.Hide
import Derived.Lib.Mul64
import Derived.Laws.Bits64b
import Derived.Laws.Externs
import Derived.Laws.EntriesVeiled
namespace Go.Proofs.Ytkeoaeeneenkaaa
open Go.RowKit Go.Cl
set_option linter.unusedVariables false
set_option linter.unusedSimpArgs false
attribute [local go_sem] lt_add_one' blk_alloc_past blk_alloc_at blk_drew blk_setCell_ne

def I64 (c : Int) : Prop := -9223372036854775808 ≤ c ∧ c ≤ 9223372036854775807
def U64 (c : Int) : Prop := 0 ≤ c ∧ c < 18446744073709551616
def pickI (c n : Int) : Int := if c < 0 then (-(c + 1)) % n else c % n
theorem pickI_bd (c n : Int) (h : 0 < n) : 0 ≤ pickI c n ∧ pickI c n < n := by
  unfold pickI
  split
  · exact ⟨Int.emod_nonneg _ (by omega), Int.emod_lt_of_pos _ h⟩
  · exact ⟨Int.emod_nonneg _ (by omega), Int.emod_lt_of_pos _ h⟩

theorem pick_any (c n : Int) (hc : I64 c) (hn : 1 ≤ n) (hn2 : n ≤ 1000000000) (w : World) :
    Calls Try.prog 20 #[.int .i64 c, .int .i64 n] w fun e w' => e = .returned (.int .i64 (pickI c n)) ∧ w = w' := by
  obtain ⟨hc1, hc2⟩ := hc
  by_cases hlt : c < 0
  · have e1 : (-(c + 1)).tmod n = (-(c + 1)) % n := Int.tmod_eq_emod_of_nonneg (by omega)
    have e2 : pickI c n = (-(c + 1)) % n := by simp [pickI, hlt]
    rw [e2, ← e1]
    clear e1 e2
    go_enter Try.func20, Try.ntmps20
    go_wp2
    go_ret
    simp
  · have e2 : pickI c n = c % n := by simp [pickI, hlt]
    rw [e2]
    clear e2
    go_enter Try.func20, Try.ntmps20
    go_wp2
    go_ret
    simp

/-! ### the 128 bits of a product, and a sum with its carry -/
theorem maskN (a : Nat) (ha : a < 18446744073709551616) : bits .and .u64 (a : Int) 4294967295 = ((a % 4294967296 : Nat) : Int) := by
  have h := bits_and_u64_nat a 4294967295 ha (by omega)
  have e : a &&& 4294967295 = a % 4294967296 := Nat.and_two_pow_sub_one_eq_mod a 32
  rw [e] at h
  exact h
theorem divN (a : Nat) : (a : Int) / 4294967296 = ((a / 4294967296 : Nat) : Int) := by omega
theorem mulN (a b : Nat) : (a : Int) * (b : Int) = ((a * b : Nat) : Int) := (Int.natCast_mul a b).symm
theorem addN (a b : Nat) : (a : Int) + (b : Int) = ((a + b : Nat) : Int) := (Int.natCast_add a b).symm
theorem wrapN (a : Nat) (ha : a < 18446744073709551616) : IntKind.u64.wrap (a : Int) = (a : Int) := by rw [IntKind.wrap_u64]; omega
theorem wrapM (a : Nat) : IntKind.u64.wrap (a : Int) = ((a % 18446744073709551616 : Nat) : Int) := by rw [IntKind.wrap_u64]; omega

set_option maxHeartbeats 1000000 in
set_option maxRecDepth 100000 in
theorem mul64_nat (x y : Nat) (hx : x < 18446744073709551616) (hy : y < 18446744073709551616) (w : World) :
    Calls Try.prog 22 #[.int .u64 x, .int .u64 y] w fun e w' => e = .returned (.tuple #[.int .u64 ((x * y / 18446744073709551616 : Nat) : Int), .int .u64 ((x * y % 18446744073709551616 : Nat) : Int)]) ∧ w = w' := by
  obtain ⟨bd, bt, bw, hhi⟩ := Lib.mul64_hi x y hx hy
  have ba := Lib.half_mul_le (a := x / 4294967296) (b := y / 4294967296) (by omega) (by omega)
  have bb := Lib.half_mul_le (a := x / 4294967296) (b := y % 4294967296) (by omega) (by omega)
  have bc := Lib.half_mul_le (a := x % 4294967296) (b := y / 4294967296) (by omega) (by omega)
  have ba' : x / 4294967296 * (y / 4294967296) < 18446744073709551616 := by omega
  have bb' : x / 4294967296 * (y % 4294967296) < 18446744073709551616 := by omega
  have bc' : x % 4294967296 * (y / 4294967296) < 18446744073709551616 := by omega
  have bh1 : x / 4294967296 * (y / 4294967296) + (x / 4294967296 * (y % 4294967296) + x % 4294967296 * (y % 4294967296) / 4294967296) / 4294967296 < 18446744073709551616 := by omega
  have bh : x / 4294967296 * (y / 4294967296) + (x / 4294967296 * (y % 4294967296) + x % 4294967296 * (y % 4294967296) / 4294967296) / 4294967296 + ((x / 4294967296 * (y % 4294967296) + x % 4294967296 * (y % 4294967296) / 4294967296) % 4294967296 + x % 4294967296 * (y / 4294967296)) / 4294967296 < 18446744073709551616 := by omega
  go_enter Try.func22, Try.ntmps22
  go_wp2
  simp only [maskN x hx, maskN y hy, divN, mulN, addN, wrapN _ bd, wrapN _ bb', wrapN _ bt, maskN _ bt, wrapN _ bc', wrapN _ bw, wrapN _ ba', wrapN _ bh1, wrapN _ bh, wrapM (x * y)]
  rw [hhi]
  go_ret2
  exact ⟨rfl, rfl⟩

/-- The upper and the lower word, over Int. -/
theorem mul64_any (x y : Int) (hx : U64 x) (hy : U64 y) (w : World) :
    Calls Try.prog 22 #[.int .u64 x, .int .u64 y] w fun e w' => e = .returned (.tuple #[.int .u64 (x * y / 18446744073709551616), .int .u64 (x * y % 18446744073709551616)]) ∧ w = w' := by
  obtain ⟨x0, x1⟩ := hx
  obtain ⟨y0, y1⟩ := hy
  obtain ⟨a, rfl⟩ := Int.eq_ofNat_of_zero_le x0
  obtain ⟨b, rfl⟩ := Int.eq_ofNat_of_zero_le y0
  refine (mul64_nat a b (by omega) (by omega) w).mono ?_
  rintro e w' ⟨rfl, rfl⟩
  refine ⟨?_, rfl⟩
  have e1 : ∀ p : Nat, ((p / 18446744073709551616 : Nat) : Int) = (p : Int) / 18446744073709551616 := fun p => by omega
  have e2 : ∀ p : Nat, ((p % 18446744073709551616 : Nat) : Int) = (p : Int) % 18446744073709551616 := fun p => by omega
  rw [← Int.natCast_mul, e1, e2]

theorem add64_0 (x y : Int) (hx : 0 ≤ x) (hy : 0 ≤ y) (w : World) : (callFunc 24 #[.int .u64 x, .int .u64 y, .int .u64 0]).run Try.prog w =
    .ok (.value (.tuple #[.int .u64 ((x + y) % 18446744073709551616), .int .u64 ((x + y) / 18446744073709551616)])) w := by
  rw [run_callFunc_extern Try.func24 (by kernel_rfl) (by kernel_rfl) (by kernel_rfl) (e := add64Entry) (by kernel_rfl), run_add64 x y 0 hx hy (by omega) (by omega)]
  simp

/-! ### a table -/
structure Win where
  c : Int
  s : Int
  n : Int

def Win.cells (x : Win) : List Value := [.int .i64 x.c, .int .u64 x.s, .int .u64 x.n]
def winCells (l : List Win) : List Value := l.flatMap Win.cells

structure Tab where
  major : Int
  l : List Win

/-- May it be? -/
structure Tab.Ok (T : Tab) : Prop where
  m1 : 1 ≤ T.major
  m2 : T.major ≤ 1099511627776
  n1 : 1 ≤ T.l.length
  n2 : T.l.length ≤ 32
  each : ∀ x ∈ T.l, 1 ≤ x.c ∧ x.c ≤ 8 ∧ 1 ≤ x.n ∧ 0 ≤ x.s ∧ x.s + x.n ≤ T.major
  sorted : T.l.Pairwise fun a b => a.s + a.n ≤ b.s

theorem winCells_len (l : List Win) : (winCells l).length = l.length * 3 := by
  induction l with
  | nil => rfl
  | cons x l ih => simp [winCells, Win.cells] at ih ⊢; omega

theorem winCells_at : ∀ (l : List Win) (i : Nat) (x : Win), l[i]? = some x → (winCells l)[i * 3]? = some (.int .i64 x.c) ∧ (winCells l)[i * 3 + 1]? = some (.int .u64 x.s) ∧ (winCells l)[i * 3 + 2]? = some (.int .u64 x.n)
  | [], i, x, h => by simp at h
  | y :: l, 0, x, h => by simp at h; subst h; simp [winCells, Win.cells]
  | y :: l, i + 1, x, h => by
    have ih := winCells_at l i x (by simpa using h)
    have e : ∀ k, (winCells (y :: l))[(i + 1) * 3 + k]? = (winCells l)[i * 3 + k]? := by
      intro k
      rw [show (i + 1) * 3 + k = (i * 3 + k) + 1 + 1 + 1 by omega]
      simp [winCells, Win.cells]
    have e0 := e 0
    simp only [Nat.add_zero] at e0
    exact ⟨by rw [e0]; exact ih.1, by rw [e]; exact ih.2.1, by rw [e]; exact ih.2.2⟩

/-- A TABLE IN MEMORY: its block and the value of its row. -/
structure HourIs (w : World) (b : Nat) (sv : Value) (T : Tab) : Prop where
  st : blk w b = some (.cells #[.int .u64 T.major, sv] 56 (0, 0))
  row : w.ownsRow 0 36 3 sv T.l.length (winCells T.l)
  ok : T.Ok

theorem HourIs.frame {S : Nat → Prop} {w w' : World} {b : Nat} {sv : Value} {T : Tab} (h : HourIs w b sv T) (hc : Chg S w w') (h1 : ¬ S b) (h2 : ∀ g, sv.ownBlock = some g → ¬ S g) : HourIs w' b sv T :=
  ⟨hc.blk' h.st h1, row_frame h.row hc h2, h.ok⟩
theorem HourIs.frame0 {w w' : World} {b : Nat} {sv : Value} {T : Tab} (h : HourIs w b sv T) (hc : Chg (fun _ => False) w w') : HourIs w' b sv T := h.frame hc id fun _ _ => id

def Tab.n (T : Tab) : Int := T.l.length
def Tab.win (T : Tab) (k : Int) : Win := T.l.getD (k % T.n).toNat ⟨0, 0, 0⟩

theorem Tab.Ok.win {T : Tab} (h : T.Ok) {k : Int} (hk : 0 ≤ k) : T.l[(k % T.n).toNat]? = some (T.win k) ∧ T.win k ∈ T.l := by
  have h1 := h.n1
  have h2 := Int.emod_lt_of_pos k (show 0 < T.n by unfold Tab.n; omega)
  have h3 := Int.emod_nonneg k (show T.n ≠ 0 by unfold Tab.n; omega)
  have h4 : (k % T.n).toNat < T.l.length := by unfold Tab.n at *; omega
  have e : T.l[(k % T.n).toNat]? = some (T.win k) := by
    unfold Tab.win
    rw [List.getD_eq_getElem?_getD, List.getElem?_eq_getElem h4]
    rfl
  exact ⟨e, List.mem_of_getElem? e⟩

def ptrV (b : Nat) : Value := .pointer (some ⟨b, 0, none⟩)

/-- Where the table's cells lie. -/
theorem HourIs.facts {w : World} {b : Nat} {sv : Value} {T : Tab} (h : HourIs w b sv T) :
    b < w.heap.size ∧ w.cell? ⟨b, 0, none⟩ = some (.int .u64 T.major) ∧ w.cell? ⟨b, 1, none⟩ = some sv ∧
    ∃ g cap, sv = .slice (some ⟨g, 0, none⟩) T.l.length cap ∧ g < w.heap.size ∧ T.l.length ≤ cap ∧ cap ≤ maxLen ∧ ∀ (i : Nat) x, T.l[i]? = some x → w.cell? ⟨g, i * 3, none⟩ = some (.int .i64 x.c) ∧ w.cell? ⟨g, i * 3 + 1, none⟩ = some (.int .u64 x.s) ∧ w.cell? ⟨g, i * 3 + 2, none⟩ = some (.int .u64 x.n) := by
  obtain ⟨g, cap, cur, rfl, _, h1, h2, h3, _, h5⟩ := row_at h.row (by have := h.ok.n1; omega)
  refine ⟨blk_lt h.st, cell_of_blk h.st 0, cell_of_blk h.st 1, g, cap, rfl, blk_lt h3, h1, h2, fun i x hx => ?_⟩
  obtain ⟨a, b, c⟩ := winCells_at T.l i x hx
  exact ⟨h5 _ _ a, h5 _ _ b, h5 _ _ c⟩

theorem n_ok {w : World} {b : Nat} {sv : Value} {T : Tab} (h : HourIs w b sv T) : Calls Try.prog 23 #[ptrV b] w fun e w' => e = .returned (.int .u64 T.n) ∧ w = w' := by
  obtain ⟨hb, c0, c1, g, cap, rfl, hg, h1, h2, _⟩ := h.facts
  have n1 := h.ok.n1
  have n2 := h.ok.n2
  unfold ptrV Tab.n
  go_enter Try.func23, Try.ntmps23
  go_wp2
  go_ret
  simp

theorem of_ok {w : World} {b : Nat} {sv : Value} {T : Tab} (h : HourIs w b sv T) (k : Int) (hk : U64 k) : Calls Try.prog 25 #[ptrV b, .int .u64 k] w fun e w' => e = .returned (.agg #[.int .i64 (T.win k).c, .int .u64 (T.win k).s, .int .u64 (T.win k).n]) ∧ Chg (fun _ => False) w w' := by
  have N := Lib.hid (fun (wy : World) (hy : Chg (fun _ => False) w wy) => n_ok (h.frame0 hy))
  obtain ⟨hb, c0, c1, g, cap, rfl, hg, h1, h2, hat⟩ := h.facts
  have n1 := h.ok.n1
  have n2 := h.ok.n2
  have hwin := (h.ok.win hk.1).1
  have hlt := (List.getElem?_eq_some_iff.1 hwin).1
  obtain ⟨i, hi⟩ : ∃ i, i = (k % T.n).toNat := ⟨_, rfl⟩
  have hii : (k % T.n) = (i : Int) := by have := Int.emod_nonneg k (show T.n ≠ 0 by unfold Tab.n; omega); omega
  rw [← hi] at hwin hlt
  obtain ⟨d0, d1, d2⟩ := hat i _ hwin
  obtain ⟨x, hx⟩ : ∃ x, x = T.win k := ⟨_, rfl⟩
  rw [← hx] at d0 d1 d2 ⊢
  obtain ⟨k0, k1⟩ := hk
  have hT1 : 1 ≤ T.n := by unfold Tab.n; omega
  have hT2 : T.n ≤ 32 := by unfold Tab.n; omega
  have HI := Lib.hid hii
  clear hx hi hwin hat hii h
  unfold ptrV at *
  go_enter Try.func25, Try.ntmps25
  go_wp2
  have e1 : k % T.n = (i : Int) := HI.out
  have e2 : k.tmod T.n = (i : Int) := by rw [Int.tmod_eq_emod_of_nonneg k0]; exact HI.out
  have hi0 : (0 : Int) ≤ (i : Int) := by omega
  have hi1 : (i : Int) < (T.l.length : Int) := by omega
  have hT0 : ¬ (T.n = 0) := by omega
  have m0 := World.new_ne w _ d0
  have m1 := World.new_ne w _ d1
  have m2 := World.new_ne w _ d2
  have mb := World.new_ne w _ c1
  go_region_held3 (fun w' => w'.cell? ⟨b, 1, none⟩ = some (.slice (some ⟨g, 0, none⟩) T.l.length cap) ∧ w'.cell? ⟨g, i * 3, none⟩ = some (.int .i64 x.c) ∧ w'.cell? ⟨g, i * 3 + 1, none⟩ = some (.int .u64 x.s) ∧ w'.cell? ⟨g, i * 3 + 2, none⟩ = some (.int .u64 x.n)) (go_keep) (first | (go_at_call 23; refine (N.out _ (((Chg.refl _ _).alloc _).drew)).mono ?_; rintro e w3 ⟨rfl, rfl⟩))
  go_wp2
  exact bodyPost_ret (v := .agg #[.int .i64 x.c, .int .u64 x.s, .int .u64 x.n]) (by simp [results, Try.results25, go_sem]) rfl ⟨rfl, ((Chg.refl _ _).alloc _).drew⟩

theorem win_f0 (a b c : Int) (w : World) : (Instr.field 36 (.agg #[.int .i64 a, .int .u64 b, .int .u64 c]) 0).run Try.prog w = .ok (.int .i64 a) w := by kernel_rfl
theorem win_f1 (a b c : Int) (w : World) : (Instr.field 36 (.agg #[.int .i64 a, .int .u64 b, .int .u64 c]) 1).run Try.prog w = .ok (.int .u64 b) w := by kernel_rfl
theorem win_f2 (a b c : Int) (w : World) : (Instr.field 36 (.agg #[.int .i64 a, .int .u64 b, .int .u64 c]) 2).run Try.prog w = .ok (.int .u64 c) w := by kernel_rfl
attribute [local go_sem] win_f0 win_f1 win_f2

/-- When a window starts. -/
def Tab.sta (T : Tab) (k : Int) : Int := if 9223372036854775807 < k / T.n * T.major + (T.win k).s then 9223372036854775807 else k / T.n * T.major + (T.win k).s

theorem length_ok {w : World} {b : Nat} {sv : Value} {T : Tab} (h : HourIs w b sv T) (k : Int) (hk : U64 k) : Calls Try.prog 8 #[ptrV b, .int .u64 k] w fun e w' => e = .returned (.int .u64 (T.win k).n) ∧ Chg (fun _ => False) w w' := by
  have O := Lib.hid (of_ok h k hk)
  unfold ptrV at *
  go_enter Try.func8, Try.ntmps8
  go_wp2_with (fail)
  refine O.out.mono ?_
  rintro e w2 ⟨rfl, hc⟩
  go_wp2
  go_ret
  exact ⟨rfl, hc⟩

theorem owner_ok {w : World} {b : Nat} {sv : Value} {T : Tab} (h : HourIs w b sv T) (k : Int) (hk : U64 k) : Calls Try.prog 11 #[ptrV b, .int .u64 k] w fun e w' => e = .returned (.int .i64 (T.win k).c) ∧ Chg (fun _ => False) w w' := by
  have O := Lib.hid (of_ok h k hk)
  unfold ptrV at *
  go_enter Try.func11, Try.ntmps11
  go_wp2_with (fail)
  refine O.out.mono ?_
  rintro e w2 ⟨rfl, hc⟩
  go_wp2
  go_ret
  exact ⟨rfl, hc⟩

theorem Chg.drewN (w : World) (n : Nat) : Chg (fun _ => False) w (w.drewN n) := by
  cases n with
  | zero => exact Chg.refl _ _
  | succ n => exact ⟨rfl, rfl, rfl, Nat.le_refl _, fun _ _ _ => rfl⟩

theorem start_ok {w : World} {b : Nat} {sv : Value} {T : Tab} (h : HourIs w b sv T) (k : Int) (hk : U64 k) : Calls Try.prog 7 #[ptrV b, .int .u64 k] w fun e w' => e = .returned (.int .u64 (T.sta k)) ∧ Chg (fun _ => False) w w' := by
  have N := Lib.hid (fun (wy : World) (hy : Chg (fun _ => False) w wy) => n_ok (h.frame0 hy))
  have O := Lib.hid (fun (wy : World) (hy : Chg (fun _ => False) w wy) => of_ok (h.frame0 hy) k hk)
  obtain ⟨hb, c0, c1, _⟩ := h.facts
  have hT1 : 1 ≤ T.n := by have := h.ok.n1; unfold Tab.n; omega
  have m1 := h.ok.m1
  have m2 := h.ok.m2
  obtain ⟨k0, k1⟩ := hk
  have hq0 : 0 ≤ k / T.n := Int.ediv_nonneg k0 (by omega)
  have hq1 : k / T.n ≤ k := Int.ediv_le_self _ k0
  have hw := h.ok.each _ (h.ok.win k0).2
  have HM := Lib.hid (fun wy => mul64_any (k / T.n) T.major ⟨hq0, by omega⟩ ⟨by omega, by omega⟩ wy)
  obtain ⟨q, hq⟩ : ∃ q, q = k / T.n := ⟨_, rfl⟩
  obtain ⟨x, hx⟩ : ∃ x, x = T.win k := ⟨_, rfl⟩
  have hE : T.sta k = if 9223372036854775807 < q * T.major + x.s then 9223372036854775807 else q * T.major + x.s := by rw [hq, hx]; rfl
  rw [← hq] at hq0 hq1 HM
  rw [← hx] at hw O
  have HE := Lib.hid hE
  have HQ := Lib.hid hq
  have hT0 : ¬ (T.n = 0) := by omega
  have e2 : k.tdiv T.n = q := by rw [Int.tdiv_eq_ediv_of_nonneg k0]; exact HQ.out.symm
  have hp0 : 0 ≤ q * T.major := Int.mul_nonneg hq0 (by omega)
  have hp2 : q * T.major ≤ q * 1099511627776 := Int.mul_le_mul_of_nonneg_left m2 hq0
  obtain ⟨p, hp⟩ : ∃ p, p = q * T.major := ⟨_, rfl⟩
  rw [← hp] at HM hp0 hp2
  have HP := Lib.hid hp
  have hx1 := hw.2.2.2.1
  have hx2 : x.s ≤ 1099511627776 := by omega
  clear hq hx hE hw hp h
  unfold ptrV at *
  go_enter Try.func7, Try.ntmps7
  go_wp2_with (fail)
  go_quiet ((first | (go_at_call 23; exact Calls.quiet_of_same ((N.out _ (Chg.drewN _ _)).mono fun _ _ h => ⟨h.1, h.2.symm⟩)) | (go_at_call 22; exact Calls.quiet_of_same ((HM.out _).mono fun _ _ h => ⟨h.1, h.2.symm⟩))))
  obtain ⟨hi, hhi⟩ : ∃ hi, hi = p / 18446744073709551616 := ⟨_, rfl⟩
  obtain ⟨lo, hlo⟩ : ∃ lo, lo = p % 18446744073709551616 := ⟨_, rfl⟩
  rw [← hhi, ← hlo]
  have hi0 : 0 ≤ hi := by rw [hhi]; omega
  have hi1 : hi ≤ 1099511627776 := by rw [hhi]; omega
  have lo0 : 0 ≤ lo := by rw [hlo]; omega
  have lo1 : lo < 18446744073709551616 := by rw [hlo]; omega
  have hpe : p = hi * 18446744073709551616 + lo := by rw [hhi, hlo]; omega
  obtain ⟨ca, hca⟩ : ∃ ca, ca = (lo + x.s) / 18446744073709551616 := ⟨_, rfl⟩
  obtain ⟨l2, hl2⟩ : ∃ l2, l2 = (lo + x.s) % 18446744073709551616 := ⟨_, rfl⟩
  have ca0 : 0 ≤ ca := by rw [hca]; omega
  have ca1 : ca ≤ 1 := by rw [hca]; omega
  have l20 : 0 ≤ l2 := by rw [hl2]; omega
  have l21 : l2 < 18446744073709551616 := by rw [hl2]; omega
  have hse : lo + x.s = ca * 18446744073709551616 + l2 := by rw [hca, hl2]; omega
  have HA := Lib.hid (fun wy => add64_0 lo x.s lo0 hx1 wy)
  have AD : Hid (∀ wy, (callFunc 24 #[.int .u64 lo, .int .u64 x.s, .int .u64 0]).run Try.prog wy = .ok (.value (.tuple #[.int .u64 l2, .int .u64 ca])) wy) := by rw [hca, hl2]; exact HA
  have hE : T.sta k = if 0 < hi + ca ∨ 9223372036854775807 < l2 then 9223372036854775807 else l2 := by
    rw [HE.out, ← HP.out]
    by_cases h1 : 0 < hi + ca ∨ 9223372036854775807 < l2
    · rw [if_pos h1, if_pos (by omega)]
    · rw [if_neg h1, if_neg (by omega)]; omega
  have HE2 := Lib.hid hE
  clear hE hpe hse hca hl2 hhi hlo hp2 HA HE e2 hT0 hp0
  go_wp2_with (fail)
  refine (O.out _ (Chg.drewN _ _)).mono ?_
  rintro e w4 ⟨rfl, hc4⟩
  have HC := Lib.hid ((Chg.drewN w nq).trans hc4 fun _ _ => id)
  clear hc4
  by_cases q1 : 0 < hi + ca
  · go_wp2_with (simp only [AD.out])
    go_ret
    exact ⟨by rw [HE2.out, if_pos (.inl q1)]; simp, HC.out⟩
  · by_cases q2 : 9223372036854775807 < l2
    · go_wp2_with (simp only [AD.out])
      go_ret
      exact ⟨by rw [HE2.out, if_pos (.inr q2)]; simp, HC.out⟩
    · go_wp2_with (simp only [AD.out])
      go_ret
      exact ⟨by rw [HE2.out, if_neg (by omega)]; simp, HC.out⟩
end Go.Proofs.Ytkeoaeeneenkaaa
