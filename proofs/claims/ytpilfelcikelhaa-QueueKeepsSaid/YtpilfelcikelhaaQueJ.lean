/- Ports: two side by side; contracts as the law of the blind writer wants them. No condition. -/
import Derived.Test.YtpilfelcikelhaaQueI
namespace Go.Proofs.Ytpilfelcikelhaa
open Go.RowKit Go.Cl
set_option linter.unusedVariables false
set_option linter.unusedSimpArgs false

/-- A port made behind a moment, at its place. -/
structure Own (W : Nat) (w : World) (b : Nat) (qv sv : Value) (q : QT) (s : PS) : Prop where
  port : PortIs w b qv sv q s
  fresh : ∀ i, Core b qv sv i → W ≤ i

theorem Own.frame {W : Nat} {S : Nat → Prop} {w w' : World} {b : Nat} {qv sv : Value} {q : QT} {s : PS} (h : Own W w b qv sv q s) (hc : Chg S w w') (hs : ∀ i cur fr, S i → blk w i ≠ some (.cells cur 5 fr)) (hn : ∀ i, Core b qv sv i → ¬ S i) : Own W w' b qv sv q s :=
  ⟨h.port.frame hc hs hn, h.fresh⟩
theorem Own.frame0 {W : Nat} {w w' : World} {b : Nat} {qv sv : Value} {q : QT} {s : PS} (h : Own W w b qv sv q s) (hc : Chg (fun _ => False) w w') : Own W w' b qv sv q s := ⟨h.port.frame0 hc, h.fresh⟩

theorem Own.lower {W W' : Nat} {w : World} {b : Nat} {qv sv : Value} {q : QT} {s : PS} (h : Own W w b qv sv q s) (hW : W' ≤ W) : Own W' w b qv sv q s := ⟨h.port, fun i hi => Nat.le_trans hW (h.fresh i hi)⟩

/-- What a call of a port leaves. -/
structure Moved (w w' : World) (b : Nat) (qv sv qv' sv' : Value) (q : QT) (s' : PS) : Prop where
  port : PortIs w' b qv' sv' q s'
  chg : Chg (Core b qv sv) w w'
  core : ∀ i, Core b qv' sv' i → Core b qv sv i ∨ w.heap.size ≤ i

theorem Moved.refl {w w' : World} {b : Nat} {qv sv : Value} {q : QT} {s : PS} (h : PortIs w b qv sv q s) (hc : Chg (fun _ => False) w w') : Moved w w' b qv sv qv sv q s := ⟨h.frame0 hc, hc.mono fun _ _ h => h.elim, fun _ hi => .inl hi⟩

theorem Own.moved {W : Nat} {w w' : World} {b : Nat} {qv sv qv' sv' : Value} {q : QT} {s s' : PS} (h : Own W w b qv sv q s) (hW : W ≤ w.heap.size) (m : Moved w w' b qv sv qv' sv' q s') : Own W w' b qv' sv' q s' :=
  ⟨m.port, fun i hi => (m.core i hi).elim (h.fresh i) fun h => Nat.le_trans hW h⟩

/-- Two ports side by side, made behind a moment. -/
structure Two (w0 w : World) (b : Nat) (qv sv : Value) (q : QT) (s : PS) (b2 : Nat) (qv2 sv2 : Value) (q2 : QT) (s2 : PS) : Prop where
  one : Own w0.heap.size w b qv sv q s
  two : Own w0.heap.size w b2 qv2 sv2 q2 s2
  apart : ∀ i, Core b qv sv i → ¬ Core b2 qv2 sv2 i
  chg : Chg (fun _ => False) w0 w

theorem Two.swap {w0 w : World} {b : Nat} {qv sv : Value} {q : QT} {s : PS} {b2 : Nat} {qv2 sv2 : Value} {q2 : QT} {s2 : PS} (h : Two w0 w b qv sv q s b2 qv2 sv2 q2 s2) : Two w0 w b2 qv2 sv2 q2 s2 b qv sv q s :=
  ⟨h.two, h.one, fun i h1 h2 => h.apart i h2 h1, h.chg⟩

theorem Two.left {w0 w w' : World} {b : Nat} {qv sv qv' sv' : Value} {q : QT} {s s' : PS} {b2 : Nat} {qv2 sv2 : Value} {q2 : QT} {s2 : PS} (h : Two w0 w b qv sv q s b2 qv2 sv2 q2 s2) (m : Moved w w' b qv sv qv' sv' q s') : Two w0 w' b qv' sv' q s' b2 qv2 sv2 q2 s2 :=
  ⟨h.one.moved h.chg.size m, h.two.frame m.chg h.one.port.core_ne fun i h1 h2 => h.apart i h2 h1, fun i h1 h2 => (m.core i h1).elim (fun h3 => h.apart i h3 h2) fun h3 => by
    have := h.two.port.lt h2
    omega, h.chg.trans m.chg fun i hi h3 => by
    have := h.one.fresh i h3
    omega⟩

theorem Two.right {w0 w w' : World} {b : Nat} {qv sv : Value} {q : QT} {s : PS} {b2 : Nat} {qv2 sv2 qv2' sv2' : Value} {q2 : QT} {s2 s2' : PS} (h : Two w0 w b qv sv q s b2 qv2 sv2 q2 s2) (m : Moved w w' b2 qv2 sv2 qv2' sv2' q2 s2') : Two w0 w' b qv sv q s b2 qv2' sv2' q2 s2' :=
  (h.swap.left m).swap

theorem Two.step {w0 w w' : World} {b : Nat} {qv sv : Value} {q : QT} {s : PS} {b2 : Nat} {qv2 sv2 : Value} {q2 : QT} {s2 : PS} (h : Two w0 w b qv sv q s b2 qv2 sv2 q2 s2) (hc : Chg (fun _ => False) w w') : Two w0 w' b qv sv q s b2 qv2 sv2 q2 s2 :=
  ⟨h.one.frame0 hc, h.two.frame0 hc, h.apart, h.chg.trans hc fun _ _ => id⟩

/-- Receive by the reader, as far as the writer goes. -/
theorem recv_any {w : World} {b : Nat} {qv sv : Value} {q : QT} {s : PS} (h : PortIs w b qv sv q s) :
    Calls Try.prog 12 #[ptrV b, .int .i64 q.reader] w fun e w' => ∃ v t is qv' s', e = .returned (.tuple #[v, .int .u64 t, .bool is, .int .i64 0]) ∧ Moved w w' b qv sv qv' sv q s' ∧ s'.ss = s.ss ∧ s'.acc = s.acc := by
  cases hq : s.qs with
  | nil =>
    refine (recv_none h hq).mono ?_
    rintro e w' ⟨rfl, rfl⟩
    exact ⟨_, _, _, _, _, rfl, Moved.refl h (Chg.refl _ _), rfl, rfl⟩
  | cons m r =>
    refine (recv_ok h hq).mono ?_
    rintro e w' ⟨v, qv', rfl, hP, _, hc, hf⟩
    refine ⟨_, _, _, _, _, rfl, ⟨hP, hc.mono fun i _ h => h.elim .inl fun h => .inr (.inl h), fun i hi => ?_⟩, rfl, rfl⟩
    rcases hi with rfl | hi | hi
    · exact .inl (.inl rfl)
    · exact (hf i hi).elim (fun h => .inl (.inr (.inl h))) .inr
    · exact .inl (.inr (.inr hi))

theorem turn_any {w : World} {b : Nat} {qv sv : Value} {q : QT} {s : PS} (h : PortIs w b qv sv q s) :
    Calls Try.prog 13 #[ptrV b, .int .i64 q.writer] w fun e w' => ∃ n qv', e = .returned (.int .i64 n) ∧ Moved w w' b qv sv qv' (.slice none 0 0) q (s.turned q) := by
  refine (turn_ok h).mono ?_
  rintro e w' ⟨qv', rfl, hP, hc, hf⟩
  refine ⟨_, _, rfl, hP, hc.mono fun i _ h => h.elim .inl fun h => .inr (.inl h), fun i hi => ?_⟩
  rcases hi with rfl | hi | hi
  · exact .inl (.inl rfl)
  · exact (hf i hi).elim (fun h => .inl (.inr (.inl h))) .inr
  · cases hi

/-- Send by the writer: taken, or full. -/
theorem send_any {w : World} {b : Nat} {qv sv : Value} {q : QT} {s : PS} (h : PortIs w b qv sv q s) {t : Int} {oa : Option Addr} {c : Nat} {xs : List Int} (hs : SrcIs w 1 oa xs.length (u8s xs)) (hc0 : oa = none → c = 0) (hx : ∀ b ∈ xs, 0 ≤ b ∧ b ≤ 255) (ht : 0 ≤ t ∧ t < 18446744073709551616)
    (hk : checkE q xs.length = 0) :
    Calls Try.prog 14 #[ptrV b, .int .i64 q.writer, .int .u64 t, .slice oa xs.length c] w fun e w' => e = .returned (.int .i64 (if fullB q s = true then 173 else 0)) ∧ ∃ sv', Moved w w' b qv sv qv sv' q (if fullB q s = true then s else s.sent (xs, t)) := by
  cases hf : fullB q s with
  | true =>
    have he : sendE q s q.writer xs.length = 173 := by simp [sendE, hk, hf]
    have := send_bad h (who := q.writer) (t := t) (oa := oa) (n := xs.length) (c := c) (by rw [he]; decide)
    rw [he] at this
    refine this.mono ?_
    rintro e w' ⟨rfl, hc⟩
    exact ⟨rfl, sv, Moved.refl h hc⟩
  | false =>
    have he : sendE q s q.writer xs.length = 0 := by simp [sendE, hk, hf]
    refine (send_ok h hs hc0 hx ht he).mono ?_
    rintro e w' ⟨rfl, sv', hP, hc, hf⟩
    refine ⟨rfl, sv', hP, hc.mono fun i _ h => h.elim .inl fun h => .inr (.inr h), fun i hi => ?_⟩
    rcases hi with rfl | hi | hi
    · exact .inl (.inl rfl)
    · exact .inl (.inr (.inl hi))
    · exact (hf i hi).elim (fun h => .inl (.inr (.inr h))) .inr

/-- New of what may be. -/
theorem new_own {q : QT} (hm : q.mayB = true) (w : World) : Calls Try.prog 8 #[q.v] w fun e w' => ∃ b, e = .returned (.tuple #[ptrV b, .int .i64 0]) ∧ Own w.heap.size w' b (.slice none 0 0) (.slice none 0 0) q PS.zero ∧ Chg (fun _ => False) w w' := by
  refine (new_any q w).mono ?_
  intro e w' h
  unfold NewPost at h
  rw [if_pos hm] at h
  obtain ⟨b, rfl, hP, hb, hc⟩ := h
  refine ⟨b, rfl, ⟨hP, fun i hi => ?_⟩, hc⟩
  rcases hi with rfl | hi | hi
  · exact hb
  · cases hi
  · cases hi

def declQ (d u : Int) (f : Bool) : QT := ⟨3, 5, 8, 1 + pickI d 32, 1 + pickI u 16, f⟩
theorem declQ_may (d u : Int) (f : Bool) : (declQ d u f).mayB = true := by
  have b1 := pickI_bd d 32 (by omega)
  have b2 := pickI_bd u 16 (by omega)
  rw [QT.mayB_iff]
  refine ⟨?_, ?_, ?_, ?_, ?_, ?_, ?_, ?_, ?_, ?_, ?_, ?_⟩ <;> simp only [declQ] <;> omega

/-! ### raw steps -/
abbrev rRaw : Rd (Int × Int) := rStruct2 1 1 (rInt .i64) (rInt .i64)
theorem dRaw : Decodes Try.prog 42 rRaw := dStruct2 Try.underlying42 (by kernel_rfl) ⟨rfl, by kernel_rfl⟩ ⟨rfl, by kernel_rfl⟩ (dInt Try.underlying3) (dInt Try.underlying3)

def RawsAre (w : World) (v : Value) (xs : List (Int × Int)) : Prop :=
  ∃ (oa : Option Addr) (cap : Nat), v = .slice oa xs.length cap ∧ xs.length ≤ cap ∧ cap ≤ maxLen ∧ ∀ i x, xs[i]? = some x → ∃ g o, oa = some ⟨g, o, none⟩ ∧ w.cell? ⟨g, o + i * 2, none⟩ = some (.int .i64 x.1) ∧ w.cell? ⟨g, o + i * 2 + 1, none⟩ = some (.int .i64 x.2) ∧ I64 x.1 ∧ I64 x.2

set_option maxRecDepth 100000 in
theorem open_raws {H : Type} {enc : TypeId × Value → H} {w : World} {b0 base : Nat} {sp : Nat → Bool} {held : Bool} {v : Value} {d : DataW H} {p : List MemPlace}
    (hok : Value.okWide Try.prog w .any b0 33 v) (h : DataW.Trod enc Try.prog w base sp held 33 v d p) : ∃ us, RawsAre w v us := by
  obtain ⟨us, hu⟩ := decode_slice Try.underlying33 (dSlice (n := 2) (R := rRaw) Try.underlying33 (by kernel_rfl) dRaw) hok h
  obtain ⟨oa, cap, rfl, h2, h3, h4, h5⟩ := things_are hu
  refine ⟨us, oa, cap, rfl, h2, h3, fun i x hx => ?_⟩
  obtain ⟨g, o, c, ha, hR, hl, hat⟩ := ThingsAre.at (by decide) ⟨oa, cap, rfl, h2, h3, h4, h5⟩ hx
  obtain ⟨hl2, ⟨r0, w0⟩, ⟨r1, w1⟩⟩ := hR
  match c, hl2 with
  | [x0, x1], _ =>
    simp at r0 r1
    subst r0 r1
    exact ⟨g, o, ha, hat 0 _ rfl, hat 1 _ rfl, i64_of w0, i64_of w1⟩

theorem open_ints {H : Type} {enc : TypeId × Value → H} {w : World} {b0 base : Nat} {sp : Nat → Bool} {held : Bool} {v : Value} {d : DataW H} {p : List MemPlace}
    (hok : Value.okWide Try.prog w .any b0 34 v) (h : DataW.Trod enc Try.prog w base sp held 34 v d p) : ∃ us, NumsAre .i64 w v us :=
  open_nums Try.underlying34 Try.underlying3 (by kernel_rfl) hok h
end Go.Proofs.Ytpilfelcikelhaa
