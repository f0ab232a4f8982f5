/- Ports of the layer queuing: how one lies in memory; contracts of its small functions. No condition. -/
import Derived.Test.YtpilfelcikelhaaProg
import Derived.Test.YtpilfelcikelhaaLibApp
import Derived.Deep.RegionHeld3
import Derived.Deep.DrawnRows
import Derived.Deep.QuietTactic
import Derived.BigQuiet
import Derived.Deep.CutRange
import Derived.Deep.CutBlock
import Derived.Deep.LoopGhost
import Derived.WalkSpells
import Derived.Lib.Hide
import Derived.Laws.EntriesVeiled
namespace Go.Proofs.Ytpilfelcikelhaa
open Go.RowKit Go.Cl
set_option linter.unusedVariables false
set_option linter.unusedSimpArgs false
attribute [local go_sem] lt_add_one' blk_alloc_past blk_alloc_at blk_drew blk_setCell_ne

def I64 (c : Int) : Prop := -9223372036854775808 ≤ c ∧ c ≤ 9223372036854775807
def pickI (c n : Int) : Int := if c < 0 then (-(c + 1)) % n else c % n
theorem pickI_bd (c n : Int) (h : 0 < n) : 0 ≤ pickI c n ∧ pickI c n < n := by
  unfold pickI
  split
  · exact ⟨Int.emod_nonneg _ (by omega), Int.emod_lt_of_pos _ h⟩
  · exact ⟨Int.emod_nonneg _ (by omega), Int.emod_lt_of_pos _ h⟩

theorem pick_any (c n : Int) (hc : I64 c) (hn : 1 ≤ n) (hn2 : n ≤ 1000000000) (w : World) :
    Calls Try.prog 11 #[.int .i64 c, .int .i64 n] w fun e w' => e = .returned (.int .i64 (pickI c n)) ∧ w' = w := by
  obtain ⟨hc1, hc2⟩ := hc
  by_cases hlt : c < 0
  · have e1 : (-(c + 1)).tmod n = (-(c + 1)) % n := Int.tmod_eq_emod_of_nonneg (by omega)
    have e2 : pickI c n = (-(c + 1)) % n := by simp [pickI, hlt]
    rw [e2, ← e1]
    clear e1 e2
    go_enter Try.func11, Try.ntmps11
    go_wp2
    go_ret
    simp
  · have e2 : pickI c n = c % n := by simp [pickI, hlt]
    rw [e2]
    clear e2
    go_enter Try.func11, Try.ntmps11
    go_wp2
    go_ret
    simp

/-! ### what is declared -/
structure QT where
  writer : Int
  reader : Int
  size : Int
  depth : Int
  quota : Int
  flow : Bool

def QT.v (q : QT) : Value := .agg #[.int .i64 q.writer, .int .i64 q.reader, .int .i64 q.size, .int .i64 q.depth, .int .i64 q.quota, .bool q.flow]

structure QT.wf (q : QT) : Prop where
  h1 : I64 q.writer
  h2 : I64 q.reader
  h3 : I64 q.size
  h4 : I64 q.depth
  h5 : I64 q.quota

def isCellB (n : Int) : Bool := decide (1 ≤ n) && decide (n ≤ 8)

/-- May a port be declared so? -/
structure QT.May (q : QT) : Prop where
  w1 : 1 ≤ q.writer
  w2 : q.writer ≤ 8
  r1 : 1 ≤ q.reader
  r2 : q.reader ≤ 8
  ne : q.writer ≠ q.reader
  s1 : 4 ≤ q.size
  s2 : q.size ≤ 256
  s4 : q.size % 4 = 0
  d1 : 1 ≤ q.depth
  d2 : q.depth ≤ 32
  u1 : 1 ≤ q.quota
  u2 : q.quota ≤ 16

theorem isCell_ok (n : Int) (w : World) : Calls Try.prog 21 #[.int .i64 n] w fun e w' => e = .returned (.bool (isCellB n)) ∧ w = w' := by
  by_cases h : 1 ≤ n
  · by_cases h2 : n ≤ 8
    · go_enter Try.func21, Try.ntmps21
      go_wp2
      go_ret
      exact ⟨by simp [isCellB, h, h2], rfl⟩
    · go_enter Try.func21, Try.ntmps21
      go_wp2
      go_ret
      exact ⟨by simp [isCellB, h, h2], rfl⟩
  · go_enter Try.func21, Try.ntmps21
    go_wp2
    go_ret
    exact ⟨by simp [isCellB]; omega, rfl⟩

theorem rcell_ok (n : Int) (w : World) : Calls Try.prog 42 #[.int .i64 n] w fun e w' => e = .returned (.bool (isCellB n)) ∧ w = w' := by
  by_cases h : 1 ≤ n
  · by_cases h2 : n ≤ 8
    · go_enter Try.func42, Try.ntmps42
      go_wp2
      go_ret
      exact ⟨by simp [isCellB, h, h2], rfl⟩
    · go_enter Try.func42, Try.ntmps42
      go_wp2
      go_ret
      exact ⟨by simp [isCellB, h, h2], rfl⟩
  · go_enter Try.func42, Try.ntmps42
    go_wp2
    go_ret
    exact ⟨by simp [isCellB]; omega, rfl⟩

/-! ### bytes and messages -/
abbrev Msg := List Int × Int

/-- A list of bytes in memory that is written no more: nil, or in a block of bytes. -/
def BytesIs (w : World) (v : Value) (xs : List Int) : Prop :=
  (v = .slice none 0 0 ∧ xs = []) ∨ ∃ g o cap cur fr, v = .slice (some ⟨g, o, none⟩) xs.length cap ∧ xs.length ≤ cap ∧ cap ≤ maxLen ∧ blk w g = some (.cells cur 5 fr) ∧ ∀ j b, xs[j]? = some b → cur[o + j]? = some (.int .u8 b)

theorem BytesIs.frame {S : Nat → Prop} {w w' : World} {v : Value} {xs : List Int} (h : BytesIs w v xs) (hc : Chg S w w') (hs : ∀ i cur fr, S i → blk w i ≠ some (.cells cur 5 fr)) : BytesIs w' v xs := by
  rcases h with h | ⟨g, o, cap, cur, fr, h1, h2, h3, h4, h5⟩
  · exact .inl h
  · exact .inr ⟨g, o, cap, cur, fr, h1, h2, h3, hc.blk' h4 (fun hS => hs g cur fr hS h4), h5⟩

/-- Messages: of each its bytes' slice and its tick, and what it is. -/
structure MsgsAre (w : World) (cs : List Value) (ms : List Msg) : Prop where
  len : cs.length = ms.length * 2
  each : ∀ i m, ms[i]? = some m → ∃ dv, cs[2 * i]? = some dv ∧ cs[2 * i + 1]? = some (.int .u64 m.2) ∧ BytesIs w dv m.1 ∧ dv.oneCell' = true

/-- A row of messages that a port owns. -/
def RowIs (w : World) (v : Value) (ms : List Msg) : Prop := ∃ cs, w.ownsRow 0 76 2 v ms.length cs ∧ MsgsAre w cs ms

/-- A message that may be. -/
def MsgOk (q : QT) (m : Msg) : Prop := (m.1.length : Int) ≤ q.size ∧ m.1.length % 4 = 0 ∧ (∀ b ∈ m.1, 0 ≤ b ∧ b ≤ 255) ∧ 0 ≤ m.2 ∧ m.2 < 18446744073709551616

structure PS where
  acc : Int
  rcv : Int
  lost : Int
  qs : List Msg
  ss : List Msg

/-- What holds of a port at every moment. -/
structure Fine (q : QT) (s : PS) : Prop where
  may : q.May
  sum : s.acc = s.rcv + s.qs.length + s.ss.length + s.lost
  r0 : 0 ≤ s.rcv
  l0 : 0 ≤ s.lost
  most : s.acc ≤ 1152921504606846976
  dq : (s.qs.length : Int) ≤ q.depth
  fl : q.flow = true → (s.qs.length : Int) + s.ss.length ≤ q.depth ∧ s.lost = 0
  nf : q.flow = false → (s.ss.length : Int) ≤ q.quota
  okq : ∀ m ∈ s.qs, MsgOk q m
  oks : ∀ m ∈ s.ss, MsgOk q m

/-- A PORT IN MEMORY: its block, the values of its two rows. -/
structure PortIs (w : World) (b : Nat) (qv sv : Value) (q : QT) (s : PS) : Prop where
  st : blk w b = some (.cells #[.int .i64 s.acc, .int .i64 s.rcv, .int .i64 s.lost, .int .i64 q.writer, .int .i64 q.reader, .int .i64 q.size, .int .i64 q.depth, .int .i64 q.quota, .bool q.flow, qv, sv] 72 (0, 0))
  rq : RowIs w qv s.qs
  rs : RowIs w sv s.ss
  ne : qv.ownBlock = none ∨ qv.ownBlock ≠ sv.ownBlock
  fine : Fine q s

/-- The blocks that a port's calls may write. -/
def Core (b : Nat) (qv sv : Value) (i : Nat) : Prop := i = b ∨ some i = qv.ownBlock ∨ some i = sv.ownBlock

def ptrV (b : Nat) : Value := .pointer (some ⟨b, 0, none⟩)

theorem RowIs.block {w : World} {v : Value} {ms : List Msg} (h : RowIs w v ms) {i : Nat} (hi : some i = v.ownBlock) : ∃ cur, Go.Cl.blk w i = some (.cells cur 76 (0, 0)) := by
  obtain ⟨cs, h1, h2⟩ := h
  exact (row_block h1 hi.symm).2

theorem PortIs.core {w : World} {b : Nat} {qv sv : Value} {q : QT} {s : PS} (h : PortIs w b qv sv q s) {i : Nat} (hi : Core b qv sv i) : ∃ cur t, blk w i = some (.cells cur t (0, 0)) ∧ (t = 72 ∨ t = 76) := by
  rcases hi with rfl | hi | hi
  · exact ⟨_, _, h.st, .inl rfl⟩
  · obtain ⟨cur, hc⟩ := h.rq.block hi; exact ⟨cur, _, hc, .inr rfl⟩
  · obtain ⟨cur, hc⟩ := h.rs.block hi; exact ⟨cur, _, hc, .inr rfl⟩

theorem PortIs.core_ne {w : World} {b : Nat} {qv sv : Value} {q : QT} {s : PS} (h : PortIs w b qv sv q s) : ∀ i cur fr, Core b qv sv i → blk w i ≠ some (.cells cur 5 fr) := by
  intro i cur fr hi e
  obtain ⟨cur', t, h1, h2⟩ := h.core hi
  rw [h1] at e
  simp only [Option.some.injEq, Obj.cells.injEq] at e
  rcases h2 with rfl | rfl
  · exact absurd e.2.1 (by decide)
  · exact absurd e.2.1 (by decide)

theorem MsgsAre.frame {S : Nat → Prop} {w w' : World} {cs : List Value} {ms : List Msg} (h : MsgsAre w cs ms) (hc : Chg S w w') (hs : ∀ i cur fr, S i → blk w i ≠ some (.cells cur 5 fr)) : MsgsAre w' cs ms :=
  ⟨h.len, fun i m hm => by obtain ⟨dv, h1, h2, h3, h4⟩ := h.each i m hm; exact ⟨dv, h1, h2, h3.frame hc hs, h4⟩⟩

theorem RowIs.frame {S : Nat → Prop} {w w' : World} {v : Value} {ms : List Msg} (h : RowIs w v ms) (hc : Chg S w w') (hs : ∀ i cur fr, S i → blk w i ≠ some (.cells cur 5 fr)) (hn : ∀ i, some i = v.ownBlock → ¬ S i) : RowIs w' v ms := by
  obtain ⟨cs, h1, h2⟩ := h
  exact ⟨cs, row_frame h1 hc (fun g hg => hn g hg.symm), h2.frame hc hs⟩

/-- A port stays while other blocks turn, none of them of bytes. -/
theorem PortIs.frame {S : Nat → Prop} {w w' : World} {b : Nat} {qv sv : Value} {q : QT} {s : PS} (h : PortIs w b qv sv q s) (hc : Chg S w w') (hs : ∀ i cur fr, S i → blk w i ≠ some (.cells cur 5 fr)) (hn : ∀ i, Core b qv sv i → ¬ S i) : PortIs w' b qv sv q s :=
  ⟨hc.blk' h.st (hn b (.inl rfl)), h.rq.frame hc hs fun i hi => hn i (.inr (.inl hi)), h.rs.frame hc hs fun i hi => hn i (.inr (.inr hi)), h.ne, h.fine⟩

theorem PortIs.frame0 {w w' : World} {b : Nat} {qv sv : Value} {q : QT} {s : PS} (h : PortIs w b qv sv q s) (hc : Chg (fun _ => False) w w') : PortIs w' b qv sv q s := h.frame hc (fun _ _ _ h => h.elim) fun _ _ => id

theorem PortIs.lt {w : World} {b : Nat} {qv sv : Value} {q : QT} {s : PS} (h : PortIs w b qv sv q s) {i : Nat} (hi : Core b qv sv i) : i < w.heap.size := by
  obtain ⟨_, _, h1, _⟩ := h.core hi
  exact blk_lt h1

/-- The form of the rows' values. -/
theorem RowIs.form {w : World} {v : Value} {ms : List Msg} (h : RowIs w v ms) : ∃ oa c, v = .slice oa ms.length c ∧ ms.length ≤ c ∧ c ≤ maxLen ∧ (oa = none → ms.length = 0 ∧ c = 0) ∧ ∀ a, oa = some a → a = ⟨a.block, 0, none⟩ := by
  obtain ⟨cs, h1, h2⟩ := h
  exact row_form h1

/-- The port's cells. -/
theorem PortIs.facts {w : World} {b : Nat} {qv sv : Value} {q : QT} {s : PS} (h : PortIs w b qv sv q s) :
    b < w.heap.size ∧ w.cell? ⟨b, 0, none⟩ = some (.int .i64 s.acc) ∧ w.cell? ⟨b, 1, none⟩ = some (.int .i64 s.rcv) ∧ w.cell? ⟨b, 2, none⟩ = some (.int .i64 s.lost) ∧
    w.cell? ⟨b, 3, none⟩ = some (.int .i64 q.writer) ∧ w.cell? ⟨b, 4, none⟩ = some (.int .i64 q.reader) ∧ w.cell? ⟨b, 5, none⟩ = some (.int .i64 q.size) ∧ w.cell? ⟨b, 6, none⟩ = some (.int .i64 q.depth) ∧
    w.cell? ⟨b, 7, none⟩ = some (.int .i64 q.quota) ∧ w.cell? ⟨b, 8, none⟩ = some (.bool q.flow) ∧ w.cell? ⟨b, 9, none⟩ = some qv ∧ w.cell? ⟨b, 10, none⟩ = some sv :=
  ⟨blk_lt h.st, cell_of_blk h.st 0, cell_of_blk h.st 1, cell_of_blk h.st 2, cell_of_blk h.st 3, cell_of_blk h.st 4, cell_of_blk h.st 5, cell_of_blk h.st 6, cell_of_blk h.st 7, cell_of_blk h.st 8, cell_of_blk h.st 9, cell_of_blk h.st 10⟩
end Go.Proofs.Ytpilfelcikelhaa
