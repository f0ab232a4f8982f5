/- WireTurns: two writers and two readers by turns. No condition but the table's place. -/
import Derived.Test.YtfihpiommicdbaaDoorWirWH
import Derived.Test.YtfihpiommicdbaaDoorWirBJ
import Derived.Test.YtfihpiommicdbaaDoorWirO
namespace Go.Proofs.YtfihpiommicdbaaDoor
open Go.RowKit Go.Cl
set_option linter.unusedVariables false
set_option linter.unusedSimpArgs false

abbrev TurnT := Int × OpT
abbrev rTurn : Rd TurnT := rStruct2 1 5 (rInt .i64) rOp
theorem dTurn : Decodes Tryd.prog 84 rTurn := dStruct2 Tryd.underlying84 (by kernel_rfl) ⟨rfl, by kernel_rfl⟩ ⟨rfl, by kernel_rfl⟩ (dInt Tryd.underlying3) dOp
theorem dTurns : Decodes Tryd.prog 80 (rSlice 6 rTurn) := dSlice Tryd.underlying80 (by kernel_rfl) dTurn
/-- A slice of turns. -/
def TurnsAre (w : World) (v : Value) (ps : List TurnT) : Prop :=
  ∃ (oa : Option Addr) (cap : Nat), v = .slice oa ps.length cap ∧ ps.length ≤ cap ∧ cap ≤ maxLen ∧ ∀ i p, ps[i]? = some p → ∃ g o bv, oa = some ⟨g, o, none⟩ ∧
    w.cell? ⟨g, o + i * 6, none⟩ = some (.int .i64 p.1) ∧ w.cell? ⟨g, o + i * 6 + 1, none⟩ = some (.int .i64 p.2.1) ∧ w.cell? ⟨g, o + i * 6 + 2, none⟩ = some (.int .u64 p.2.2.1) ∧ w.cell? ⟨g, o + i * 6 + 3, none⟩ = some (.int .i64 p.2.2.2.1) ∧ w.cell? ⟨g, o + i * 6 + 4, none⟩ = some bv ∧
    w.cell? ⟨g, o + i * 6 + 5, none⟩ = some (.string p.2.2.2.2.2) ∧ BytesIs w bv p.2.2.2.2.1 ∧ I64 p.1 ∧ OpOk p.2
theorem turn_cells {w : World} {c : List Value} {p : TurnT} (h : rTurn w c p) : ∃ bv, c = [.int .i64 p.1, .int .i64 p.2.1, .int .u64 p.2.2.1, .int .i64 p.2.2.2.1, bv, .string p.2.2.2.2.2] ∧ BytesIs w bv p.2.2.2.2.1 ∧ I64 p.1 ∧ OpOk p.2 := by
  obtain ⟨hl, ⟨h0, w0⟩, h1⟩ := h
  obtain ⟨bv, hc, hb, hok⟩ := op_cells h1
  match c, hl with
  | [x0, x1, x2, x3, x4, x5], _ =>
    simp at h0 hc
    obtain ⟨rfl, rfl, rfl, rfl, rfl⟩ := hc
    subst h0
    exact ⟨_, rfl, hb, i64_of w0, hok⟩
theorem turns_are {w : World} {v : Value} {ps : List TurnT} (h : rSlice 6 rTurn w [v] ps) : TurnsAre w v ps := by
  have ht := things_are h
  obtain ⟨oa, cap, rfl, h1, h2, h3, _⟩ := ht
  refine ⟨oa, cap, rfl, h1, h2, fun i p hp => ?_⟩
  obtain ⟨g, o, c, rfl, hc, hl, hat⟩ := (things_are h).at (by omega) hp
  obtain ⟨bv, rfl, hb, hs, hok⟩ := turn_cells hc
  exact ⟨g, o, bv, rfl, hat 0 _ rfl, hat 1 _ rfl, hat 2 _ rfl, hat 3 _ rfl, hat 4 _ rfl, hat 5 _ rfl, hb, hs, hok⟩
set_option maxRecDepth 100000 in
theorem open_turns {H : Type} {enc : TypeId × Value → H} {w : World} {b0 base : Nat} {sp : Nat → Bool} {held : Bool} {v : Value} {d : DataW H} {p : List MemPlace}
    (hok : Value.okWide Tryd.prog w .any b0 80 v) (h : DataW.Trod enc Tryd.prog w base sp held 80 v d p) : ∃ us, TurnsAre w v us := by
  obtain ⟨us, hu⟩ := decode_slice Tryd.underlying80 dTurns hok h
  exact ⟨us, turns_are hu⟩

/-- A maker's things, with so many places at most. -/
def Mkr (base X b b' k : Nat) (L : List Thing) : Prop :=
  ∃ m v v' o' pv s pl sz dn, pl.length ≤ k ∧ (∀ p ∈ pl, I64 p) ∧ L = [wrT base b m v s, vwT base b' v' o' s, blkT X (mkO b b' pv sz dn), rowT base 3 1 pv pl.length (i64s pl)]
/-- A pair's things. -/
def Rpr (base r q : Nat) (v u : Value) (L : List Thing) : Prop := ∃ s : RS, s.xs.length ≤ 20000 ∧ L = [rdT base r v s, vdT base q u s]
theorem Mkr.of {base w B bs X b b' s pl sz dn R} {k : Nat} (h : Maker base w B bs X b b' s pl sz dn R) (hl : pl.length ≤ k) (hi : ∀ p ∈ pl, I64 p) : ∃ L, Mkr base X b b' k L ∧ BookAt base w B bs (L ++ R) := by
  obtain ⟨pv, m, v, v', o', h⟩ := h
  exact ⟨_, ⟨m, v, v', o', pv, s, pl, sz, dn, hl, hi, rfl⟩, h⟩
theorem Mkr.to {base w B bs X b b' k L R} (h : Mkr base X b b' k L) (hb : BookAt base w B bs (L ++ R)) : ∃ s pl sz dn, pl.length ≤ k ∧ (∀ p ∈ pl, I64 p) ∧ Maker base w B bs X b b' s pl sz dn R := by
  obtain ⟨m, v, v', o', pv, s, pl, sz, dn, hl, hi, rfl⟩ := h
  exact ⟨s, pl, sz, dn, hl, hi, pv, m, v, v', o', hb⟩
theorem Mkr.more {base X b b' k k' L} (h : Mkr base X b b' k L) (hk : k ≤ k') : Mkr base X b b' k' L := by
  obtain ⟨m, v, v', o', pv, s, pl, sz, dn, hl, r⟩ := h
  exact ⟨m, v, v', o', pv, s, pl, sz, dn, Nat.le_trans hl hk, r⟩

theorem mv1 (a : Thing) (L M : List Thing) : (a :: (L ++ M)).Perm (L ++ (a :: M)) := List.perm_middle.symm
theorem mvL (A B C : List Thing) : (A ++ (B ++ C)).Perm (B ++ (A ++ C)) := by
  rw [← List.append_assoc, ← List.append_assoc]
  exact List.perm_append_comm.append_right C
/-- The blocks of all. -/
structure Ids where
  X : Nat → Nat
  b : Nat → Nat
  c : Nat → Nat
  r : Nat → Nat
  q : Nat → Nat
  v : Nat → Value
  u : Nat → Value
/-- Two makers, two pairs of readers, what else there is: all beside the book. -/
def All (base : Nat) (w : World) (B : Nat) (bs : BS) (k : Nat) (I : Ids) (Rr : List Thing) : Prop :=
  ∃ L0 L1 P0 P1, Mkr base (I.X 0) (I.b 0) (I.c 0) k L0 ∧ Mkr base (I.X 1) (I.b 1) (I.c 1) k L1 ∧ Rpr base (I.r 0) (I.q 0) (I.v 0) (I.u 0) P0 ∧ Rpr base (I.r 1) (I.q 1) (I.v 1) (I.u 1) P1 ∧ BookAt base w B bs (P1 ++ (P0 ++ (L1 ++ (L0 ++ Rr))))
theorem All.step {base w w' B bs k I Rr Rr'} (h : All base w B bs k I Rr) {C : Prop} (f : ∀ Z, Sep base w (Z ++ Rr) → Sep base w' (Z ++ Rr') ∧ C) : All base w' B bs k I Rr' ∧ C := by
  obtain ⟨L0, L1, P0, P1, h0, h1, h2, h3, hb⟩ := h
  have h4 := hb.step (w' := w') (R' := P1 ++ (P0 ++ (L1 ++ (L0 ++ Rr')))) (C := C) fun Z hz => by
    have h5 := f (Z ++ (P1 ++ (P0 ++ (L1 ++ L0)))) (by simpa [List.append_assoc] using hz)
    exact ⟨by simpa [List.append_assoc] using h5.1, h5.2⟩
  exact ⟨⟨L0, L1, P0, P1, h0, h1, h2, h3, h4.1⟩, h4.2⟩
theorem All.still {base w w' B bs k I Rr} (h : All base w B bs k I Rr) (hc : Chg (fun _ => False) w w') : All base w' B bs k I Rr := (h.step (C := True) fun Z hz => ⟨hz.frame hc, trivial⟩).1
theorem All.sub {base w B bs k I Rr Rr'} (h : All base w B bs k I Rr) (hp : Rr'.Sublist Rr) : All base w B bs k I Rr' := (h.step (C := True) fun Z hz => ⟨hz.sub (hp.append_left Z), trivial⟩).1
theorem All.add {base w w' B bs k I Rr} {u : Thing} (h : All base w B bs k I Rr) (hb : base ≤ w.heap.size) (hc : Chg (fun _ => False) w w') (hu : u.holds w') (hf : ∀ i, u.foot i → w.heap.size ≤ i) : All base w' B bs k I (u :: Rr) := (h.step (C := True) fun Z hz => ⟨hz.pushAt Z hb hc hu hf, trivial⟩).1
theorem All.mem {base w B bs k I Rr} (h : All base w B bs k I Rr) {t : Thing} (ht : t ∈ Rr) : t.holds w := by
  obtain ⟨L0, L1, P0, P1, h0, h1, h2, h3, hb⟩ := h
  exact hb.mem (by simp [ht])
theorem All.more {base w B bs k k' I Rr} (h : All base w B bs k I Rr) (hk : k ≤ k') : All base w B bs k' I Rr := by
  obtain ⟨L0, L1, P0, P1, h0, h1, r⟩ := h
  exact ⟨L0, L1, P0, P1, h0.more hk, h1.more hk, r⟩
theorem All.looks {base w B bs k I Rr} {m : Nat} (h : All base w B bs k I Rr) (hb : base ≤ w.heap.size) (hf : bs.few m) (hm : m ≤ 1000000) : Calls Tryd.prog 21 #[.pointer (some ⟨B, 0, none⟩)] w fun e w' => e = .returned (.bool true) ∧ (∃ bs', bs'.few m ∧ All base w' B bs' k I Rr) ∧ Chg (fun i => base ≤ i) w w' := by
  obtain ⟨L0, L1, P0, P1, h0, h1, h2, h3, h⟩ := h
  refine (looks_few h hb hf hm).mono fun e w' he => ⟨he.1, ?_, he.2.2⟩
  obtain ⟨bs', hf', hb'⟩ := he.2.1
  exact ⟨bs', hf', L0, L1, P0, P1, h0, h1, h2, h3, hb'⟩
/-- One of the makers, with all else beside it. -/
theorem All.maker {base w B bs k I Rr} (h : All base w B bs k I Rr) {j : Nat} (hj : j < 2) : ∃ R s pl sz dn, pl.length ≤ k ∧ (∀ p ∈ pl, I64 p) ∧ Maker base w B bs (I.X j) (I.b j) (I.c j) s pl sz dn R ∧ (∀ t ∈ Rr, t ∈ R) ∧
    ∀ w' bs' s' pl' sz' dn' k', k ≤ k' → pl'.length ≤ k' → (∀ p ∈ pl', I64 p) → Maker base w' B bs' (I.X j) (I.b j) (I.c j) s' pl' sz' dn' R → All base w' B bs' k' I Rr := by
  obtain ⟨L0, L1, P0, P1, h0, h1, h2, h3, hb⟩ := h
  match j, hj with
  | 0, _ =>
    have hp : ∀ L0, (P1 ++ (P0 ++ (L1 ++ (L0 ++ Rr)))).Perm (L0 ++ (P1 ++ (P0 ++ (L1 ++ Rr)))) := fun L0 =>
      (List.Perm.append_left P1 ((List.Perm.append_left P0 (mvL L1 L0 Rr)).trans (mvL P0 L0 _))).trans (mvL P1 L0 _)
    obtain ⟨s, pl, sz, dn, hl, hi, hm⟩ := h0.to (hb.perm (hp L0))
    refine ⟨P1 ++ (P0 ++ (L1 ++ Rr)), s, pl, sz, dn, hl, hi, hm, fun t ht => by simp [ht], fun w' bs' s' pl' sz' dn' k' hk hl' hi' hm' => ?_⟩
    obtain ⟨L, hL, hb'⟩ := Mkr.of hm' hl' hi'
    exact ⟨L, L1, P0, P1, hL, h1.more hk, h2, h3, hb'.perm (hp L).symm⟩
  | 1, _ =>
    have hp : ∀ L1, (P1 ++ (P0 ++ (L1 ++ (L0 ++ Rr)))).Perm (L1 ++ (P1 ++ (P0 ++ (L0 ++ Rr)))) := fun L1 =>
      (List.Perm.append_left P1 (mvL P0 L1 _)).trans (mvL P1 L1 _)
    obtain ⟨s, pl, sz, dn, hl, hi, hm⟩ := h1.to (hb.perm (hp L1))
    refine ⟨P1 ++ (P0 ++ (L0 ++ Rr)), s, pl, sz, dn, hl, hi, hm, fun t ht => by simp [ht], fun w' bs' s' pl' sz' dn' k' hk hl' hi' hm' => ?_⟩
    obtain ⟨L, hL, hb'⟩ := Mkr.of hm' hl' hi'
    exact ⟨L0, L, P0, P1, h0.more hk, hL, h2, h3, hb'.perm (hp L).symm⟩
/-- One of the pairs, with all else beside it. -/
theorem All.pair {base w B bs k I Rr} (h : All base w B bs k I Rr) {j : Nat} (hj : j < 2) : ∃ (R : List Thing) (s : RS), s.xs.length ≤ 20000 ∧ BookAt base w B bs (rdT base (I.r j) (I.v j) s :: vdT base (I.q j) (I.u j) s :: R) ∧
    ∀ w' bs' s', s'.xs.length ≤ 20000 → BookAt base w' B bs' (rdT base (I.r j) (I.v j) s' :: vdT base (I.q j) (I.u j) s' :: R) → All base w' B bs' k I Rr := by
  obtain ⟨L0, L1, P0, P1, h0, h1, ⟨s0, hs0, rfl⟩, ⟨s1, hs1, rfl⟩, hb⟩ := h
  match j, hj with
  | 0, _ =>
    have hp : ∀ P0 P1 : List Thing, (P1 ++ (P0 ++ (L1 ++ (L0 ++ Rr)))).Perm (P0 ++ (P1 ++ (L1 ++ (L0 ++ Rr)))) := fun P0 P1 => mvL P1 P0 _
    exact ⟨_, s0, hs0, hb.perm (hp _ _), fun w' bs' s' hs' hb' => ⟨L0, L1, _, _, h0, h1, ⟨s', hs', rfl⟩, ⟨s1, hs1, rfl⟩, (BookAt.perm (R := [rdT base (I.r 0) (I.v 0) s', vdT base (I.q 0) (I.u 0) s'] ++ ([rdT base (I.r 1) (I.v 1) s1, vdT base (I.q 1) (I.u 1) s1] ++ (L1 ++ (L0 ++ Rr)))) hb' (hp _ _).symm)⟩⟩
  | 1, _ => exact ⟨_, s1, hs1, hb, fun w' bs' s' hs' hb' => ⟨L0, L1, _, _, h0, h1, ⟨s0, hs0, rfl⟩, ⟨s', hs', rfl⟩, hb'⟩⟩
theorem All.alike {base w B bs k I Rr} (h : All base w B bs k I Rr) {j : Nat} (hj : j < 2) : Calls Tryd.prog 27 #[.agg #[.pointer (some ⟨I.r j, 0, none⟩), .pointer (some ⟨I.q j, 0, none⟩)]] w fun e w' => e = .returned (.bool true) ∧ Chg (fun _ => False) w w' := by
  obtain ⟨R, s, hs, hb, -⟩ := h.pair hj
  exact alike_ok (hb.mem (t := rdT base (I.r j) (I.v j) s) (by simp) : RdIs w base (I.r j) (I.v j) s) (hb.mem (t := vdT base (I.q j) (I.u j) s) (by simp) : VdIs w base (I.q j) (I.u j) s)
/-- Any step of a pair. -/
theorem All.reads {base w B bs k I Rr} {n : Nat} (h : All base w B bs k I Rr) (hbs : base ≤ w.heap.size) (hf : bs.few n) (hn : n ≤ 999990) {j : Nat} (hj : j < 2) (kd nn K : Int) (hk : K ≤ 9223372036854775807) (ov : Value) (st : ByteArray) :
    Calls Tryd.prog 28 #[.agg #[.pointer (some ⟨I.r j, 0, none⟩), .pointer (some ⟨I.q j, 0, none⟩)], .agg #[.int .i64 kd, .int .u64 nn, .int .i64 K, ov, .string st], .pointer (some ⟨B, 0, none⟩)] w fun e w' => e = .returned (.bool true) ∧ (∃ bs', bs'.few (n + 4) ∧ All base w' B bs' k I Rr) ∧ Chg (fun i => base ≤ i) w w' := by
  obtain ⟨R, s, hs, hb, hback⟩ := h.pair hj
  have hR : RdIs w base (I.r j) (I.v j) s := hb.mem (t := rdT base (I.r j) (I.v j) s) (by simp)
  refine (reads_any hb hbs (by have := hf.1; omega) (by omega) kd nn K hk ov st).mono fun e w' he => ⟨he.1, ?_, he.2.2⟩
  obtain ⟨bs', hb', hbs'⟩ := he.2.1
  refine ⟨bs', ?_, hback w' bs' _ (by rw [stepped_xs]; exact hs) hb'⟩
  rcases hbs' with rfl | ⟨v9, c9, rfl⟩
  · exact hf.more (by omega)
  · exact (hf.own (Nat.le_trans (rawV_few _ _) (by omega)) (rawV_byte hR.byte K)).more (by omega)
/-- Done of a maker. -/
theorem All.done {base w B bs k I Rr} {n : Nat} (h : All base w B bs k I Rr) (hbs : base ≤ w.heap.size) (hf : bs.few n) (hn : n ≤ 999990) {j : Nat} (hj : j < 2) :
    Calls Tryd.prog 22 #[.pointer (some ⟨I.b j, 0, none⟩), .pointer (some ⟨I.c j, 0, none⟩), .pointer (some ⟨B, 0, none⟩)] w fun e w' => e = .returned (.bool true) ∧ (∃ bs', bs'.few (n + 4) ∧ All base w' B bs' k I Rr) ∧ Chg (fun i => base ≤ i) w w' := by
  obtain ⟨R, s, pl, sz, dn, hl, hi, ⟨pv, hm⟩, -, hback⟩ := h.maker hj
  refine (done_ok hm hbs hf hn).mono fun e w' he => ⟨he.1, ?_, he.2.2⟩
  obtain ⟨bs', hf', hm'⟩ := he.2.1
  exact ⟨bs', hf', hback w' bs' s pl sz dn k (Nat.le_refl _) hl hi ⟨pv, hm'⟩⟩
/-- Counting and a step of a maker. -/
theorem All.much {base w B bs k I Rr} (h : All base w B bs k I Rr) (hbs : base ≤ w.heap.size) {j : Nat} (hj : j < 2) (kd nn K : Int) (hk : I64 K) (ob : Option Addr) (n bc : Nat) (st : ByteArray) :
    Calls Tryd.prog 19 #[.pointer (some ⟨I.X j, 0, none⟩), .agg #[.int .i64 kd, .int .u64 nn, .int .i64 K, .slice ob n bc, .string st]] w fun e w' => ∃ over, e = .returned (.bool over) ∧ All base w' B bs k I Rr ∧ Chg (fun i => base ≤ i) w w' := by
  obtain ⟨R, s, pl, sz, dn, hl, hi, hm, -, hback⟩ := h.maker hj
  refine (much_ok hm hbs kd nn K hk ob n bc st).mono fun e w' he => ?_
  obtain ⟨over, he1, ⟨sz', dn', hm'⟩, hc⟩ := he
  exact ⟨over, he1, hback w' bs s pl sz' dn' k (Nat.le_refl _) hl hi hm', hc⟩
theorem All.stepAny {base w B bs k I Rr} {n : Nat} (h : All base w B bs k I Rr) (hbs : base ≤ w.heap.size) (hf : bs.few n) (hn : n ≤ 999990) (hk0 : k ≤ 1000000) {j : Nat} (hj : j < 2) (kd nn K : Int) (hn0 : 0 ≤ nn) (hn1 : nn ≤ 18446744073709551615) (hk : I64 K) (ob : Option Addr) (bl : List Int) (bc : Nat) (hbl : bl.length ≤ 3000) (hbb : ∀ wy, Chg (fun i => base ≤ i) w wy → BytesIs wy (.slice ob bl.length bc) bl) (st : ByteArray) (hst : st.size ≤ 70000) :
    Calls Tryd.prog 20 #[.pointer (some ⟨I.X j, 0, none⟩), .agg #[.int .i64 kd, .int .u64 nn, .int .i64 K, .slice ob bl.length bc, .string st], .pointer (some ⟨B, 0, none⟩)] w fun e w' => e = .returned (.bool true) ∧ (∃ bs', bs'.few (n + 4) ∧ All base w' B bs' (k + 300) I Rr) ∧ Chg (fun i => base ≤ i) w w' := by
  obtain ⟨R, s, pl, sz, dn, hl, hi, hm, -, hback⟩ := h.maker hj
  refine (step_any hm hbs hf hn (Nat.le_trans hl hk0) hi kd nn K hn0 hn1 hk ob bl bc hbl hbb st hst).mono fun e w' he => ⟨he.1, ?_, he.2.2⟩
  obtain ⟨bs', s', pl', hf', hl', hi', hm'⟩ := he.2.1
  exact ⟨bs', hf', hback w' bs' s' pl' sz dn (k + 300) (by omega) (by omega) hi' hm'⟩

/-- A new maker. -/
theorem newMaker {base XA i b m b' : Nat} {T : TypeId} {w w1 w2 : World} {cs cs' : Array Value} {Ls : List Thing} {n : Int} (h : Sep base w (blkT XA (.cells cs T (0, 0)) :: Ls)) (hb : base ≤ w.heap.size) (hw : WrIs w1 w.heap.size b m (.slice none 0 0) (WS.zero n)) (hc1 : Chg (fun _ => False) w w1) (hv : VwIs w2 w1.heap.size b' (.slice none 0 0) (.slice none 0 0) (WS.zero n)) (hc2 : Chg (fun _ => False) w1 w2)
    (he : objSet i (.pointer (some ⟨w2.heap.size, 0, none⟩)) (.cells cs T (0, 0)) = .cells cs' T (0, 0)) : ∃ L, Mkr base w2.heap.size b b' 0 L ∧ Sep base ((w2.setCell ⟨XA, i, none⟩ (.pointer (some ⟨w2.heap.size, 0, none⟩))).alloc (mkO b b' (.slice none 0 0) 0 0)) (blkT XA (.cells cs' T (0, 0)) :: (L ++ Ls)) ∧ Chg (fun i => base ≤ i) w ((w2.setCell ⟨XA, i, none⟩ (.pointer (some ⟨w2.heap.size, 0, none⟩))).alloc (mkO b b' (.slice none 0 0) 0 0)) := by
  have hb1 := Nat.le_trans hb hc1.size
  have hb2 := Nat.le_trans hb1 hc2.size
  have hW : WrIs w1 base b m (.slice none 0 0) (WS.zero n) := ⟨hw.st, rowLow hw.row hb, hw.mp, hw.fine, Nat.le_trans hb hw.nb, Nat.le_trans hb hw.nm⟩
  have hV : VwIs w2 base b' (.slice none 0 0) (.slice none 0 0) (WS.zero n) := ⟨hv.st, rowLow hv.row hb1, rowLow hv.orow hb1, hv.fine, Nat.le_trans hb1 hv.nb⟩
  have s1 := h.push hb hc1 (t' := wrT base b m (.slice none 0 0) (WS.zero n)) hW (fun i hi => (hw.foot hi).1)
  have s2 := (s1.push hb1 hc2 (t' := vwT base b' (.slice none 0 0) (.slice none 0 0) (WS.zero n)) hV (fun i hi => (hv.foot hi).1)).nilRow 3 1
  have hX : base ≤ XA := h.above (blkT XA (.cells cs T (0, 0))) (by simp) XA rfl
  have s3 := (s2.perm (List.perm_middle (l₁ := [_, _, _]))).cell (i := i) (x := .pointer (some ⟨w2.heap.size, 0, none⟩)) hb2 he
  have hc3 : Chg (fun _ => False) (w2.setCell ⟨XA, i, none⟩ (.pointer (some ⟨w2.heap.size, 0, none⟩))) ((w2.setCell ⟨XA, i, none⟩ (.pointer (some ⟨w2.heap.size, 0, none⟩))).alloc (mkO b b' (.slice none 0 0) 0 0)) := (Chg.refl _ _).alloc _
  have s4 := s3.push (by simpa using hb2) hc3 (t' := blkT w2.heap.size (mkO b b' (.slice none 0 0) 0 0)) (blk_alloc_at _ _ _ (by simp)) (fun i hi => by
    have hi : i = w2.heap.size := hi
    simp; omega)
  have s5 := s4.perm (show List.Perm _ (blkT XA (.cells cs' T (0, 0)) :: ([wrT base b m (.slice none 0 0) (WS.zero n), vwT base b' (.slice none 0 0) (.slice none 0 0) (WS.zero n), blkT w2.heap.size (mkO b b' (.slice none 0 0) 0 0), rowT base 3 1 (.slice none 0 0) 0 []] ++ Ls)) from by
    refine (List.Perm.swap _ _ _).trans (.cons _ ?_)
    -- [X, row, vw, wr] ~ [wr, vw, X, row]
    exact (List.perm_append_comm (l₁ := [blkT w2.heap.size (mkO b b' (.slice none 0 0) 0 0), rowT base 3 1 (.slice none 0 0) 0 []] ) (l₂ := [vwT base b' (.slice none 0 0) (.slice none 0 0) (WS.zero n), wrT base b m (.slice none 0 0) (WS.zero n)])).append_right Ls |>.trans (List.Perm.swap _ _ _))
  refine ⟨_, ⟨m, _, _, _, .slice none 0 0, WS.zero n, [], 0, 0, Nat.zero_le _, by simp, rfl⟩, s5, ?_⟩
  exact ((((hc1.trans hc2 fun _ _ => id).mono fun (i : Nat) _ (h : False) => (show base ≤ i from h.elim)).setCell (p := ⟨XA, i, none⟩) (fun _ => hX) _).trans hc3 fun _ _ h => h.elim)
/-- A new pair. -/
theorem newPair {base PA i r q : Nat} {T : TypeId} {w w1 w2 : World} {cs cs1 cs2 : Array Value} {v u : Value} {xs : List Int} {Ls : List Thing} (h : Sep base w (blkT PA (.cells cs T (0, 0)) :: Ls)) (hb : base ≤ w.heap.size) (hr : RdIs w1 w.heap.size r v (RS.zero xs)) (hc1 : Chg (fun _ => False) w w1) (hv : VdIs w2 w1.heap.size q u (RS.zero xs)) (hc2 : Chg (fun _ => False) w1 w2) (hx : xs.length ≤ 20000)
    (he : objSet i (.pointer (some ⟨r, 0, none⟩)) (.cells cs T (0, 0)) = .cells cs1 T (0, 0)) (he2 : objSet (i + 1) (.pointer (some ⟨q, 0, none⟩)) (.cells cs1 T (0, 0)) = .cells cs2 T (0, 0)) : ∃ L, Rpr base r q v u L ∧ Sep base ((w2.setCell ⟨PA, i, none⟩ (.pointer (some ⟨r, 0, none⟩))).setCell ⟨PA, i + 1, none⟩ (.pointer (some ⟨q, 0, none⟩))) (blkT PA (.cells cs2 T (0, 0)) :: (L ++ Ls)) ∧ Chg (fun i => base ≤ i) w ((w2.setCell ⟨PA, i, none⟩ (.pointer (some ⟨r, 0, none⟩))).setCell ⟨PA, i + 1, none⟩ (.pointer (some ⟨q, 0, none⟩))) := by
  have hb1 := Nat.le_trans hb hc1.size
  have hb2 := Nat.le_trans hb1 hc2.size
  have s1 := h.push hb hc1 (t' := rdT base r v (RS.zero xs)) (hr.lower hb) (fun i hi => (hr.foot hi).1)
  have s2 := s1.push hb1 hc2 (t' := vdT base q u (RS.zero xs)) (hv.lower hb1) (fun i hi => (hv.foot hi).1)
  have hX : base ≤ PA := h.above (blkT PA (.cells cs T (0, 0))) (by simp) PA rfl
  have s4 := s2.perm (show List.Perm _ (blkT PA (.cells cs T (0, 0)) :: ([rdT base r v (RS.zero xs), vdT base q u (RS.zero xs)] ++ Ls)) from (List.perm_middle (l₁ := [_, _])).trans (.cons _ (List.Perm.swap _ _ _)))
  have s5 := s4.cell (i := i) (x := .pointer (some ⟨r, 0, none⟩)) hb2 he
  have s6 := s5.cell (i := i + 1) (x := .pointer (some ⟨q, 0, none⟩)) (by simpa using hb2) he2
  exact ⟨_, ⟨RS.zero xs, hx, rfl⟩, s6, (((hc1.trans hc2 fun _ _ => id).mono fun (i : Nat) _ (h : False) => (show base ≤ i from h.elim)).setCell (p := ⟨PA, i, none⟩) (fun _ => hX) _).setCell (p := ⟨PA, i + 1, none⟩) (fun _ => hX) _⟩
attribute [local go_sem] lt_add_one' blk_alloc_past blk_alloc_at blk_drew blk_setCell_ne

theorem all_perm (P1 P0 L1 L0 : List Thing) (x a : Thing) : (a :: (P1 ++ (P0 ++ (x :: (L1 ++ (L0 ++ [])))))).Perm (P1 ++ (P0 ++ (L1 ++ (L0 ++ [x, a])))) := by
  have h1 : (x :: (L1 ++ (L0 ++ []))).Perm (L1 ++ (L0 ++ [x])) := (mv1 x L1 _).trans ((mv1 x L0 []).append_left L1)
  have h2 : (a :: (L1 ++ (L0 ++ [x]))).Perm (L1 ++ (L0 ++ [x, a])) := ((mv1 a L1 _).trans ((mv1 a L0 [x]).append_left L1)).trans (((List.Perm.swap x a []).append_left L0).append_left L1)
  exact (mv1 a P1 _).trans (((mv1 a P0 _).trans (((h1.cons a).trans h2).append_left P0)).append_left P1)

/-- The two lists of all. -/
abbrev oXI (I : Ids) : Obj := .cells #[.pointer (some ⟨I.X 0, 0, none⟩), .pointer (some ⟨I.X 1, 0, none⟩)] 81 (0, 0)
abbrev oPI (I : Ids) : Obj := .cells #[.pointer (some ⟨I.r 0, 0, none⟩), .pointer (some ⟨I.q 0, 0, none⟩), .pointer (some ⟨I.r 1, 0, none⟩), .pointer (some ⟨I.q 1, 0, none⟩)] 82 (0, 0)

set_option maxHeartbeats 16000000 in
set_option maxRecDepth 100000 in
theorem turns_walk (w : World) (hT : TableAt w) (lim mu : Int) (hlim : I64 lim) (hmu : I64 mu) {va vb v1 : Value} {xs ys : List Int} (hxs : BytesIs w va xs) (hxl : xs.length ≤ 140737488355328) (hys : BytesIs w vb ys) (hyl : ys.length ≤ 140737488355328) {ps : List TurnT} (hp : TurnsAre w v1 ps) :
    Calls Tryd.prog 9 #[.int .i64 lim, va, vb, v1, .int .i64 mu] w fun e w' => e = .returned (.bool true) ∧ Chg (fun _ => False) w w' := by
  obtain ⟨oa, cap, rfl, hl1, hl2, hps⟩ := hp
  have HP := Lib.hid hps
  have HK := Lib.hid (known_ok hT)
  have HX := Lib.hid hxs
  have HY := Lib.hid hys
  have HLM := Lib.hid hlim
  have HMU := Lib.hid hmu
  obtain ⟨oA, cA, rfl, ha1, ha2, -⟩ := hxs
  obtain ⟨oB, cB, rfl, hb1, hb2, -⟩ := hys
  have HAB := Lib.hid (And.intro (And.intro ha1 ha2) (And.intro hb1 hb2))
  unfold maxLen at hl2
  clear hT hps hlim hmu ha1 ha2 hb1 hb2
  go_enter Tryd.func9, Tryd.ntmps9
  go_wp2_with fail
  refine HK.out.mono ?_
  rintro e w1 ⟨rfl, hc⟩
  have HC1 := Lib.hid hc
  clear hc HK
  go_upto_region 3 with (fail)
  have hpb := pickI_bd lim 3000000 (by omega)
  obtain ⟨P, hP⟩ : ∃ P, P = pickI lim 3000000 := ⟨_, rfl⟩
  rw [← hP] at hpb
  have HPK := Lib.hid (fun (wy : World) => (show Calls Tryd.prog 15 #[.int .i64 lim, .int .i64 3000000] wy fun e w' => e = .returned (.int .i64 P) ∧ wy = w' by rw [hP]; exact pick_any lim 3000000 HLM.out (by omega) (by omega) _))
  obtain ⟨hp0, hp1⟩ := hpb
  clear hP
  obtain ⟨wx, hwx⟩ : ∃ wx, wx = w1.alloc (.cells #[.pointer none, .pointer none] 81 (0, 0)) := ⟨_, rfl⟩
  obtain ⟨XA, hXA⟩ : ∃ XA, XA = w1.heap.size := ⟨_, rfl⟩
  have hcx : Chg (fun _ => False) w1 wx := by rw [hwx]; exact (Chg.refl _ _).alloc _
  have HS0 := Lib.hid ((Sep.nil w.heap.size w1).push HC1.out.size hcx (t' := blkT XA (.cells #[.pointer none, .pointer none] 81 (0, 0))) (by rw [hwx, hXA]; exact blk_alloc_at _ _ _ rfl) (fun i hi => by
    have hi : i = XA := hi
    omega))
  have HCX := Lib.hid (show Chg (fun i => w.heap.size ≤ i) w wx from (HC1.out.trans hcx fun _ _ => id).mono fun (i : Nat) _ (h : False) => h.elim)
  rw [← hwx, ← hXA]
  clear hwx hXA hcx
  go_upto_block 0 with (fail)
  go_cut [13] from 40 to 78 (fun s13 wq => ∃ X0 b0 c0 L0 X1 b1 c1 L1, Mkr w.heap.size X0 b0 c0 0 L0 ∧ Mkr w.heap.size X1 b1 c1 0 L1 ∧ Sep w.heap.size wq (blkT XA (.cells #[.pointer (some ⟨X0, 0, none⟩), .pointer (some ⟨X1, 0, none⟩)] 81 (0, 0)) :: (L1 ++ (L0 ++ []))) ∧ Chg (fun i => w.heap.size ≤ i) w wq)
  case first =>
    have wk0 : IntKind.i64.wrap 0 = 0 := by decide
    have wk1 : IntKind.i64.wrap P = P := by rw [IntKind.wrap_i64]; omega
    have wk2 : IntKind.i64.wrap (3000000 - P) = 3000000 - P := by rw [IntKind.wrap_i64]; omega
    have wk3 : IntKind.i64.wrap 3000000 = 3000000 := by decide
    go_wp2
    go_loopg [13] 2 (fun g s13 wr => ∃ i : Nat, s13 = .int .i64 i ∧ ((g = 2 ∧ i = 0 ∧ Sep w.heap.size wr [blkT XA (.cells #[.pointer none, .pointer none] 81 (0, 0))]) ∨ (g = 1 ∧ i = 1 ∧ ∃ X0 b0 c0 L0, Mkr w.heap.size X0 b0 c0 0 L0 ∧ Sep w.heap.size wr (blkT XA (.cells #[.pointer (some ⟨X0, 0, none⟩), .pointer none] 81 (0, 0)) :: (L0 ++ []))) ∨ (g = 0 ∧ i = 2 ∧ ∃ X0 b0 c0 L0 X1 b1 c1 L1, Mkr w.heap.size X0 b0 c0 0 L0 ∧ Mkr w.heap.size X1 b1 c1 0 L1 ∧ Sep w.heap.size wr (blkT XA (.cells #[.pointer (some ⟨X0, 0, none⟩), .pointer (some ⟨X1, 0, none⟩)] 81 (0, 0)) :: (L1 ++ (L0 ++ []))))) ∧ Chg (fun i => w.heap.size ≤ i) w wr)
    case atStart => exact ⟨0, rfl, .inl ⟨rfl, rfl, HS0.out⟩, HCX.out⟩
    case round =>
      obtain ⟨i, rfl, hrel, hch⟩ := hrel
      rcases hrel with hrel | hrel | hrel
      ·
        obtain ⟨rfl, rfl, hs⟩ := hrel
        have HS := Lib.hid hs
        have HCr := Lib.hid hch
        have HBr := Lib.hid hch.size
        clear hs hch
        go_wp2_with fail
        refine (HPK.out _).mono ?_
        rintro e w2 ⟨rfl, rfl⟩
        go_wp2_with fail
        refine (newW_ok 3000000 (by omega) (by omega) _).mono ?_
        rintro e w3 ⟨b, m, rfl, hw, hc3⟩
        have HW := Lib.hid hw
        have HC3 := Lib.hid hc3
        clear hw hc3
        unfold ptrV
        go_wp2_with fail
        refine (vnew_ok 3000000 (by omega) (by omega)).mono ?_
        rintro e w4 ⟨c, rfl, hv, hc4⟩
        have HV := Lib.hid hv
        have HC4 := Lib.hid hc4
        have hxb := Chg.blk' (HC3.out.trans hc4 fun _ _ => id) (show blk _ XA = some (.cells #[.pointer none, .pointer none] 81 (0, 0)) from HS.out.head) id
        have xi := cell_of_blk hxb 0
        have zi := frozen_of_blk hxb 0
        have xl := blk_lt hxb
        have NM := Lib.hid (newMaker HS.out HBr.out HW.out HC3.out HV.out HC4.out (i := 0) (cs' := #[.pointer (some ⟨w4.heap.size, 0, none⟩), .pointer none]) (by simp [objSet]))
        clear hv hc4 hxb
        go_wp2
        go_roundg 1
        case measure => omega
        case rel =>
          obtain ⟨L, hM, hS, hC⟩ := NM.out
          exact ⟨1, rfl, .inr (.inl ⟨rfl, rfl, _, b, c, L, hM, by rw [List.append_nil] at hS ⊢; exact hS⟩), HCr.out.trans hC fun _ _ h => h⟩
      ·
        obtain ⟨rfl, rfl, X0, b0, c0, L0, hM0, hs⟩ := hrel
        have HS := Lib.hid hs
        have HCr := Lib.hid hch
        have HBr := Lib.hid hch.size
        clear hs hch
        go_wp2_with fail
        refine (HPK.out _).mono ?_
        rintro e w2 ⟨rfl, rfl⟩
        go_wp2_with fail
        refine (newW_ok (3000000 - P) (by omega) (by omega) _).mono ?_
        rintro e w3 ⟨b, m, rfl, hw, hc3⟩
        have HW := Lib.hid hw
        have HC3 := Lib.hid hc3
        clear hw hc3
        unfold ptrV
        go_wp2_with fail
        refine (vnew_ok (3000000 - P) (by omega) (by omega)).mono ?_
        rintro e w4 ⟨c, rfl, hv, hc4⟩
        have HV := Lib.hid hv
        have HC4 := Lib.hid hc4
        have hxb := Chg.blk' (HC3.out.trans hc4 fun _ _ => id) (show blk _ XA = some (.cells #[.pointer (some ⟨X0, 0, none⟩), .pointer none] 81 (0, 0)) from HS.out.head) id
        have xi := cell_of_blk hxb 1
        have zi := frozen_of_blk hxb 1
        have xl := blk_lt hxb
        have NM := Lib.hid (newMaker HS.out HBr.out HW.out HC3.out HV.out HC4.out (i := 1) (cs' := #[.pointer (some ⟨X0, 0, none⟩), .pointer (some ⟨w4.heap.size, 0, none⟩)]) (by simp [objSet]))
        clear hv hc4 hxb
        go_wp2
        go_roundg 0
        case measure => omega
        case rel =>
          obtain ⟨L, hM, hS, hC⟩ := NM.out
          exact ⟨2, rfl, .inr (.inr ⟨rfl, rfl, X0, b0, c0, L0, _, b, c, L, hM0, hM, hS⟩), HCr.out.trans hC fun _ _ h => h⟩
      · obtain ⟨rfl, rfl, hr⟩ := hrel
        have HR := Lib.hid hr
        have HCr := Lib.hid hch
        clear hr hch
        go_wp2
        go_meet
        case rel =>
          obtain ⟨X0, b0, c0, L0, X1, b1, c1, L1, h0, h1, hs⟩ := HR.out
          exact ⟨X0, b0, c0, L0, X1, b1, c1, L1, h0, h1, hs, HCr.out⟩
  case rest =>
    obtain ⟨X0, b0, c0, L0, X1, b1, c1, L1, hM0, hM1, hs, hch⟩ := hcut
    have HM0 := Lib.hid hM0
    have HM1 := Lib.hid hM1
    clear hM0 hM1 hp0 hp1 HPK HS0 HCX
    go_upto_region 13 with (fail)
    obtain ⟨LX, hLX⟩ : ∃ LX, LX = blkT XA (.cells #[.pointer (some ⟨X0, 0, none⟩), .pointer (some ⟨X1, 0, none⟩)] 81 (0, 0)) :: (L1 ++ (L0 ++ [])) := ⟨_, rfl⟩
    rw [← hLX] at hs
    have HLX := Lib.hid hLX
    obtain ⟨wx, hwx⟩ : ∃ wx, wx = wc.alloc (.cells #[.pointer none, .pointer none, .pointer none, .pointer none] 82 (0, 0)) := ⟨_, rfl⟩
    obtain ⟨PA, hPA⟩ : ∃ PA, PA = wc.heap.size := ⟨_, rfl⟩
    have hcx : Chg (fun _ => False) wc wx := by rw [hwx]; exact (Chg.refl _ _).alloc _
    have HS0 := Lib.hid (hs.push hch.size hcx (t' := blkT PA (.cells #[.pointer none, .pointer none, .pointer none, .pointer none] 82 (0, 0))) (by rw [hwx, hPA]; exact blk_alloc_at _ _ _ rfl) (fun i hi => by
      have hi : i = PA := hi
      omega))
    have HCX := Lib.hid (hch.trans hcx fun _ _ h => h.elim)
    rw [← hwx, ← hPA]
    clear hwx hPA hcx hs hch hLX
    go_upto_block 2 with (fail)
    go_cut [20] from 79 to 101 (fun s20 wq => ∃ r0 q0 v0 u0 P0 r1 q1 v1 u1 P1, Rpr w.heap.size r0 q0 v0 u0 P0 ∧ Rpr w.heap.size r1 q1 v1 u1 P1 ∧ Sep w.heap.size wq (blkT PA (.cells #[.pointer (some ⟨r0, 0, none⟩), .pointer (some ⟨q0, 0, none⟩), .pointer (some ⟨r1, 0, none⟩), .pointer (some ⟨q1, 0, none⟩)] 82 (0, 0)) :: (P1 ++ (P0 ++ LX))) ∧ Chg (fun i => w.heap.size ≤ i) w wq)
    case first =>
      go_wp2
      go_loopg [20] 2 (fun g s20 wr => ∃ i : Nat, s20 = .int .i64 i ∧ ((g = 2 ∧ i = 0 ∧ Sep w.heap.size wr (blkT PA (.cells #[.pointer none, .pointer none, .pointer none, .pointer none] 82 (0, 0)) :: LX)) ∨ (g = 1 ∧ i = 1 ∧ ∃ r0 q0 v0 u0 P0, Rpr w.heap.size r0 q0 v0 u0 P0 ∧ Sep w.heap.size wr (blkT PA (.cells #[.pointer (some ⟨r0, 0, none⟩), .pointer (some ⟨q0, 0, none⟩), .pointer none, .pointer none] 82 (0, 0)) :: (P0 ++ LX))) ∨ (g = 0 ∧ i = 2 ∧ ∃ r0 q0 v0 u0 P0 r1 q1 v1 u1 P1, Rpr w.heap.size r0 q0 v0 u0 P0 ∧ Rpr w.heap.size r1 q1 v1 u1 P1 ∧ Sep w.heap.size wr (blkT PA (.cells #[.pointer (some ⟨r0, 0, none⟩), .pointer (some ⟨q0, 0, none⟩), .pointer (some ⟨r1, 0, none⟩), .pointer (some ⟨q1, 0, none⟩)] 82 (0, 0)) :: (P1 ++ (P0 ++ LX))))) ∧ Chg (fun i => w.heap.size ≤ i) w wr)
      case atStart => exact ⟨0, rfl, .inl ⟨rfl, rfl, HS0.out⟩, HCX.out⟩
      case round =>
        obtain ⟨i, rfl, hrel, hch⟩ := hrel
        rcases hrel with hrel | hrel | hrel
        ·
          obtain ⟨rfl, rfl, hs⟩ := hrel
          have HS := Lib.hid hs
          have HCr := Lib.hid hch
          have HBr := Lib.hid hch.size
          have HZ := Lib.hid (HX.out.frame hch fun j hj h => by omega)
          clear hs hch
          by_cases hl : 20000 < xs.length
          · have hl' : (20000 : Int) < (xs.length : Int) := by omega
            have hl3 : (20000 : Int) ≤ (cA : Int) := by have := HAB.out.1.1; omega
            obtain ⟨zs, hzs⟩ : ∃ zs, zs = xs.take 20000 := ⟨_, rfl⟩
            have el : zs.length = 20000 := by rw [hzs, List.length_take]; omega
            have HZL := Lib.hid (show zs.length ≤ 20000 by omega)
            have HT := Lib.hid (show BytesIs _ (.slice oA 20000 cA) zs by have := bytes_take HZ.out 20000; rw [← hzs, el] at this; exact this)
            clear hl el hzs
            have HN1 := Lib.hid (newR_ok HT.out (by have := HZL.out; omega))
            go_wp2_with fail
            refine HN1.out.mono ?_
            rintro e w3 ⟨r, v, rfl, hr, hc3⟩
            have HR3 := Lib.hid hr
            have HC3 := Lib.hid hc3
            have HN2 := Lib.hid (newV_ok (HT.out.frame hc3 fun _ _ => id) (by have := HZL.out; omega))
            clear hr hc3 HN1
            go_wp2_with fail
            refine HN2.out.mono ?_
            rintro e w4 ⟨q, u, rfl, hv, hc4⟩
            have HV4 := Lib.hid hv
            have HC4 := Lib.hid hc4
            have hxb := Chg.blk' (HC3.out.trans hc4 fun _ _ => id) (show blk _ PA = some (.cells #[.pointer none, .pointer none, .pointer none, .pointer none] 82 (0, 0)) from HS.out.head) id
            have xi := cell_of_blk hxb 0
            have zi := frozen_of_blk hxb 0
            have xj := cell_of_blk hxb 1
            have zj := frozen_of_blk hxb 1
            have xl := blk_lt hxb
            have NP := Lib.hid (newPair HS.out HBr.out HR3.out HC3.out HV4.out HC4.out HZL.out (i := 0) (cs1 := #[.pointer (some ⟨r, 0, none⟩), .pointer none, .pointer none, .pointer none]) (cs2 := #[.pointer (some ⟨r, 0, none⟩), .pointer (some ⟨q, 0, none⟩), .pointer none, .pointer none]) (by simp [objSet]) (by simp [objSet]))
            clear hv hc4 hxb HN2
            go_wp2
            go_roundg 1
            case measure => omega
            case rel =>
              obtain ⟨L, hM, hS, hC⟩ := NP.out
              exact ⟨1, rfl, .inr (.inl ⟨rfl, rfl, r, q, v, u, L, hM, hS⟩), HCr.out.trans hC fun _ _ h => h⟩
          · have hl' : ¬ (20000 : Int) < (xs.length : Int) := by omega
            have HZL := Lib.hid (show xs.length ≤ 20000 by omega)
            have HT := Lib.hid HZ.out
            clear hl
            have HN1 := Lib.hid (newR_ok HT.out (by have := HZL.out; omega))
            go_wp2_with fail
            refine HN1.out.mono ?_
            rintro e w3 ⟨r, v, rfl, hr, hc3⟩
            have HR3 := Lib.hid hr
            have HC3 := Lib.hid hc3
            have HN2 := Lib.hid (newV_ok (HT.out.frame hc3 fun _ _ => id) (by have := HZL.out; omega))
            clear hr hc3 HN1
            go_wp2_with fail
            refine HN2.out.mono ?_
            rintro e w4 ⟨q, u, rfl, hv, hc4⟩
            have HV4 := Lib.hid hv
            have HC4 := Lib.hid hc4
            have hxb := Chg.blk' (HC3.out.trans hc4 fun _ _ => id) (show blk _ PA = some (.cells #[.pointer none, .pointer none, .pointer none, .pointer none] 82 (0, 0)) from HS.out.head) id
            have xi := cell_of_blk hxb 0
            have zi := frozen_of_blk hxb 0
            have xj := cell_of_blk hxb 1
            have zj := frozen_of_blk hxb 1
            have xl := blk_lt hxb
            have NP := Lib.hid (newPair HS.out HBr.out HR3.out HC3.out HV4.out HC4.out HZL.out (i := 0) (cs1 := #[.pointer (some ⟨r, 0, none⟩), .pointer none, .pointer none, .pointer none]) (cs2 := #[.pointer (some ⟨r, 0, none⟩), .pointer (some ⟨q, 0, none⟩), .pointer none, .pointer none]) (by simp [objSet]) (by simp [objSet]))
            clear hv hc4 hxb HN2
            go_wp2
            go_roundg 1
            case measure => omega
            case rel =>
              obtain ⟨L, hM, hS, hC⟩ := NP.out
              exact ⟨1, rfl, .inr (.inl ⟨rfl, rfl, r, q, v, u, L, hM, hS⟩), HCr.out.trans hC fun _ _ h => h⟩
        ·
          obtain ⟨rfl, rfl, r0, q0, v0, u0, P0, hP0, hs⟩ := hrel
          have HS := Lib.hid hs
          have HCr := Lib.hid hch
          have HBr := Lib.hid hch.size
          have HZ := Lib.hid (HY.out.frame hch fun j hj h => by omega)
          clear hs hch
          by_cases hl : 20000 < ys.length
          · have hl' : (20000 : Int) < (ys.length : Int) := by omega
            have hl3 : (20000 : Int) ≤ (cB : Int) := by have := HAB.out.2.1; omega
            obtain ⟨zs, hzs⟩ : ∃ zs, zs = ys.take 20000 := ⟨_, rfl⟩
            have el : zs.length = 20000 := by rw [hzs, List.length_take]; omega
            have HZL := Lib.hid (show zs.length ≤ 20000 by omega)
            have HT := Lib.hid (show BytesIs _ (.slice oB 20000 cB) zs by have := bytes_take HZ.out 20000; rw [← hzs, el] at this; exact this)
            clear hl el hzs
            have HN1 := Lib.hid (newR_ok HT.out (by have := HZL.out; omega))
            go_wp2_with fail
            refine HN1.out.mono ?_
            rintro e w3 ⟨r, v, rfl, hr, hc3⟩
            have HR3 := Lib.hid hr
            have HC3 := Lib.hid hc3
            have HN2 := Lib.hid (newV_ok (HT.out.frame hc3 fun _ _ => id) (by have := HZL.out; omega))
            clear hr hc3 HN1
            go_wp2_with fail
            refine HN2.out.mono ?_
            rintro e w4 ⟨q, u, rfl, hv, hc4⟩
            have HV4 := Lib.hid hv
            have HC4 := Lib.hid hc4
            have hxb := Chg.blk' (HC3.out.trans hc4 fun _ _ => id) (show blk _ PA = some (.cells #[.pointer (some ⟨r0, 0, none⟩), .pointer (some ⟨q0, 0, none⟩), .pointer none, .pointer none] 82 (0, 0)) from HS.out.head) id
            have xi := cell_of_blk hxb 2
            have zi := frozen_of_blk hxb 2
            have xj := cell_of_blk hxb 3
            have zj := frozen_of_blk hxb 3
            have xl := blk_lt hxb
            have NP := Lib.hid (newPair HS.out HBr.out HR3.out HC3.out HV4.out HC4.out HZL.out (i := 2) (cs1 := #[.pointer (some ⟨r0, 0, none⟩), .pointer (some ⟨q0, 0, none⟩), .pointer (some ⟨r, 0, none⟩), .pointer none]) (cs2 := #[.pointer (some ⟨r0, 0, none⟩), .pointer (some ⟨q0, 0, none⟩), .pointer (some ⟨r, 0, none⟩), .pointer (some ⟨q, 0, none⟩)]) (by simp [objSet]) (by simp [objSet]))
            clear hv hc4 hxb HN2
            go_wp2
            go_roundg 0
            case measure => omega
            case rel =>
              obtain ⟨L, hM, hS, hC⟩ := NP.out
              exact ⟨2, rfl, .inr (.inr ⟨rfl, rfl, r0, q0, v0, u0, P0, r, q, v, u, L, hP0, hM, hS⟩), HCr.out.trans hC fun _ _ h => h⟩
          · have hl' : ¬ (20000 : Int) < (ys.length : Int) := by omega
            have HZL := Lib.hid (show ys.length ≤ 20000 by omega)
            have HT := Lib.hid HZ.out
            clear hl
            have HN1 := Lib.hid (newR_ok HT.out (by have := HZL.out; omega))
            go_wp2_with fail
            refine HN1.out.mono ?_
            rintro e w3 ⟨r, v, rfl, hr, hc3⟩
            have HR3 := Lib.hid hr
            have HC3 := Lib.hid hc3
            have HN2 := Lib.hid (newV_ok (HT.out.frame hc3 fun _ _ => id) (by have := HZL.out; omega))
            clear hr hc3 HN1
            go_wp2_with fail
            refine HN2.out.mono ?_
            rintro e w4 ⟨q, u, rfl, hv, hc4⟩
            have HV4 := Lib.hid hv
            have HC4 := Lib.hid hc4
            have hxb := Chg.blk' (HC3.out.trans hc4 fun _ _ => id) (show blk _ PA = some (.cells #[.pointer (some ⟨r0, 0, none⟩), .pointer (some ⟨q0, 0, none⟩), .pointer none, .pointer none] 82 (0, 0)) from HS.out.head) id
            have xi := cell_of_blk hxb 2
            have zi := frozen_of_blk hxb 2
            have xj := cell_of_blk hxb 3
            have zj := frozen_of_blk hxb 3
            have xl := blk_lt hxb
            have NP := Lib.hid (newPair HS.out HBr.out HR3.out HC3.out HV4.out HC4.out HZL.out (i := 2) (cs1 := #[.pointer (some ⟨r0, 0, none⟩), .pointer (some ⟨q0, 0, none⟩), .pointer (some ⟨r, 0, none⟩), .pointer none]) (cs2 := #[.pointer (some ⟨r0, 0, none⟩), .pointer (some ⟨q0, 0, none⟩), .pointer (some ⟨r, 0, none⟩), .pointer (some ⟨q, 0, none⟩)]) (by simp [objSet]) (by simp [objSet]))
            clear hv hc4 hxb HN2
            go_wp2
            go_roundg 0
            case measure => omega
            case rel =>
              obtain ⟨L, hM, hS, hC⟩ := NP.out
              exact ⟨2, rfl, .inr (.inr ⟨rfl, rfl, r0, q0, v0, u0, P0, r, q, v, u, L, hP0, hM, hS⟩), HCr.out.trans hC fun _ _ h => h⟩
        · obtain ⟨rfl, rfl, hr⟩ := hrel
          have HR := Lib.hid hr
          have HCr := Lib.hid hch
          clear hr hch
          go_wp2
          go_meet
          case rel =>
            obtain ⟨r0, q0, v0, u0, P0, r1, q1, v1, u1, P1, h0, h1, hs⟩ := HR.out
            exact ⟨r0, q0, v0, u0, P0, r1, q1, v1, u1, P1, h0, h1, hs, HCr.out⟩
    case rest =>
      obtain ⟨r0, q0, v0, u0, P0, r1, q1, v1, u1, P1, hP0, hP1, hs, hch⟩ := hcut
      clear HS0 HCX
      go_upto_region 26 with (fail)
      obtain ⟨w4, hw4⟩ : ∃ w4, w4 = wc.alloc (.cells #[.slice none 0 0, .slice none 0 0, .slice none 0 0, .slice none 0 0, .slice none 0 0, .slice none 0 0] 43 (0, 0)) := ⟨_, rfl⟩
      obtain ⟨B, hB⟩ : ∃ B, B = wc.heap.size := ⟨_, rfl⟩
      have hc4 : Chg (fun _ => False) wc w4 := by rw [hw4]; exact (Chg.refl _ _).alloc _
      have hb4 : blk w4 B = some (.cells #[.slice none 0 0, .slice none 0 0, .slice none 0 0, .slice none 0 0, .slice none 0 0, .slice none 0 0] 43 (0, 0)) := by rw [hw4, hB]; exact blk_alloc_at _ _ _ rfl
      have hbk := book_new (hs.frame hc4) hb4 (fun t ht i hi => t.old (hs.all t ht) hi) (by omega) hch.size
      rw [HLX.out] at hbk
      have hall : ∃ I, All w.heap.size w4 B ⟨[], [], []⟩ 0 I [blkT XA (oXI I), blkT PA (oPI I)] :=
        ⟨⟨fun j => if j = 0 then X0 else X1, fun j => if j = 0 then b0 else b1, fun j => if j = 0 then c0 else c1, fun j => if j = 0 then r0 else r1, fun j => if j = 0 then q0 else q1, fun j => if j = 0 then v0 else v1, fun j => if j = 0 then u0 else u1⟩, L0, L1, P0, P1, HM0.out, HM1.out, hP0, hP1, hbk.perm (all_perm _ _ _ _ _ _)⟩
      have HCZ := Lib.hid (hch.trans hc4 fun _ _ h => h.elim)
      rw [← hw4, ← hB]
      clear hw4 hB hc4 hb4 hbk hs hch hP0 hP1 HM0 HM1 HLX HX HY HAB
      obtain ⟨I, hall⟩ := hall
      have HALL := Lib.hid hall
      clear hall
      go_upto_block 4 with (fail)
      go_cut [24] from 104 to 177 (fun s24 wq => ∃ (k : Nat) (bs : BS), bs.few 1000 ∧ All w.heap.size wq B bs k I [blkT XA (oXI I), blkT PA (oPI I)] ∧ Chg (fun i => w.heap.size ≤ i) w wq)
      case first =>
        go_wp2
        go_loopg [24] 200 (fun g s24 wr => ∃ (i : Nat) (bs : BS), i + g = 200 ∧ s24 = .int .i64 i ∧ bs.few (4 * i) ∧ All w.heap.size wr B bs (300 * i) I [blkT XA (oXI I), blkT PA (oPI I)] ∧ Chg (fun i => w.heap.size ≤ i) w wr)
        case atStart => exact ⟨0, ⟨[], [], []⟩, by omega, rfl, ⟨by simp, by simp, by simp⟩, HALL.out, HCZ.out⟩
        case round =>
          obtain ⟨i, bs, hig, rfl, hfew, hall, hch⟩ := hrel
          have HIG := Lib.hid hig
          have HFEW := Lib.hid hfew
          have HAr := Lib.hid hall
          have HCH := Lib.hid hch
          clear hfew hall hch
          by_cases q1 : i < ps.length
          · have q1' : (i : Int) < (ps.length : Int) := by omega
            by_cases q2 : i < 200
            · have q2' : (i : Int) < 200 := by omega
              obtain ⟨g0, o0, bv, rfl, e0, e1, e2, e3, e4, e5, hb, hsd, hok⟩ := HP.out i _ (List.getElem?_eq_getElem q1)
              generalize ps[i] = p at *
              obtain ⟨sraw, y, n, K, Bq, Sq⟩ := p
              obtain ⟨k0, k1, k2, k3, k4⟩ := hok
              dsimp only at e0 e1 e2 e3 e4 e5 k0 k1 k2 k3 k4 hb hsd
              have fold : ∀ (j : Nat), j < w.heap.size → ¬ (w.heap.size ≤ j) := fun j h1 h2 => by omega
              have d1 := cell_frame HCH.out fold e1
              have d2 := cell_frame HCH.out fold e2
              have d3 := cell_frame HCH.out fold e3
              have d4 := cell_frame HCH.out fold e4
              have d5 := cell_frame HCH.out fold e5
              have HE0 := Lib.hid (fun (wy : World) (h : Chg (fun i => w.heap.size ≤ i) w wy) => cell_frame h fold e0)
              have HOK := Lib.hid (And.intro k1 (And.intro k2 k3))
              have HI := Lib.hid q1
              have HQ2 := Lib.hid q2
              have HBB := Lib.hid hb
              obtain ⟨oq, cq, rfl, hq1, hq2, -⟩ := hb
              have HCT := Lib.hid (fun wy => cut_ok (w := wy) y n K oq Bq cq hq1 (by unfold maxLen at hq2; omega) Sq)
              obtain ⟨bl, hbl⟩ : ∃ bl, bl = Bq.take 3000 := ⟨_, rfl⟩
              have HBL := Lib.hid (show bl.length ≤ 3000 by rw [hbl, List.length_take]; omega)
              obtain ⟨st, hst⟩ : ∃ st, st = cutS Sq := ⟨_, rfl⟩
              have HST := Lib.hid (show st.size ≤ 70000 by rw [hst]; exact cutS_few _)
              have HBT := Lib.hid (show BytesIs w (.slice oq bl.length cq) bl by rw [hbl]; exact bytes_take HBB.out 3000)
              rw [← hbl, ← hst] at HCT
              have hpb := pickI_bd sraw 4 (by omega)
              obtain ⟨sd, hsdd⟩ : ∃ sd, sd = pickI sraw 4 := ⟨_, rfl⟩
              rw [← hsdd] at hpb
              have HPK := Lib.hid (fun (wy : World) => (show Calls Tryd.prog 15 #[.int .i64 sraw, .int .i64 4] wy fun e w' => e = .returned (.int .i64 sd) ∧ wy = w' by rw [hsdd]; exact pick_any sraw 4 hsd (by omega) (by omega) _))
              have HSD := Lib.hid hpb
              clear e0 e1 e2 e3 e4 e5 fold k0 k1 k2 k3 k4 hbl hst hq1 hq2 q1 q2 hig hsd hsdd hpb
              go_wp2_with fail
              refine (HCT.out _).mono ?_
              rintro e w5 ⟨rfl, hc5⟩
              have HA5 := Lib.hid (HAr.out.still hc5)
              have HC5 := Lib.hid (HCH.out.trans hc5 fun _ _ h => h.elim)
              clear hc5 d1 d2 d3 d4 d5
              go_upto_region 30 with (fail)
              obtain ⟨w6, hw6⟩ : ∃ w6, w6 = w5.alloc (.cells #[.int .i64 y, .int .u64 n, .int .i64 K, .slice oq bl.length cq, .string st] 50 (0, 0)) := ⟨_, rfl⟩
              obtain ⟨O, hO⟩ : ∃ O, O = w5.heap.size := ⟨_, rfl⟩
              have hc6 : Chg (fun _ => False) w5 w6 := by rw [hw6]; exact (Chg.refl _ _).alloc _
              have hob : blk w6 O = some (opO y n K (.slice oq bl.length cq) st) := by rw [hw6, hO]; exact blk_alloc_at _ _ _ rfl
              have HA6 := Lib.hid (HA5.out.add HC5.out.size hc6 (u := blkT O (opO y n K (.slice oq bl.length cq) st)) hob (fun i hi => by
                have hi : i = O := hi
                omega))
              have HC6 := Lib.hid (HC5.out.trans hc6 fun _ _ h => h.elim)
              have d0 := HE0.out _ HC6.out
              rw [← hw6, ← hO]
              clear hw6 hO hc6 hob
              go_wp2_with fail
              refine (HPK.out _).mono ?_
              rintro e w7 ⟨rfl, rfl⟩
              clear d0
              go_upto_if 127 with (fail)
              go_cut [27] from 126 to 149 (fun s27 wq => s27 = .bool true ∧ ∃ (bs' : BS), bs'.few (4 * i + 4) ∧ All w.heap.size wq B bs' (300 * i + 300) I [blkT O (opO y n K (.slice oq bl.length cq) st), blkT XA (oXI I), blkT PA (oPI I)] ∧ Chg (fun i => w.heap.size ≤ i) w wq)
              case first =>
                have hsdn : sd = 0 ∨ sd = 1 ∨ sd = 2 ∨ sd = 3 := by have := HSD.out; omega
                rcases hsdn with hs0 | hs1 | hs2 | hs3
                ·
                  subst hs0
                  have hob : blk w6 O = some (opO y n K (.slice oq bl.length cq) st) := HA6.out.mem (t := blkT O (opO y n K (.slice oq bl.length cq) st)) (by simp)
                  have y0 := cell_of_blk hob 0
                  have y1 := cell_of_blk hob 1
                  have y2 := cell_of_blk hob 2
                  have y3 := cell_of_blk hob 3
                  have y4 := cell_of_blk hob 4
                  clear hob
                  have hxb : blk w6 XA = some (oXI I) := HA6.out.mem (t := blkT XA (oXI I)) (by simp)
                  have xx0 := cell_of_blk hxb 0
                  have xx1 := cell_of_blk hxb 1
                  clear hxb
                  have HM := Lib.hid ((HA6.out.still ((Chg.refl _ w6).drew)).much (j := 0) (by simpa using HC6.out.size) (by decide) y n K HOK.out.2.2 oq bl.length cq st)
                  go_upto_region 33 with (fail)
                  go_still_tail 4, (by kernel_rfl)
                  change wpList _ _ _ _ _ (World.drew w6)
                  go_wp2_with fail
                  refine HM.out.mono ?_
                  rintro e w8 ⟨over, rfl, hA8, hc8⟩
                  have HA8 := Lib.hid hA8
                  have HC8 := Lib.hid (HC6.out.trans (((Chg.refl (fun i => w.heap.size ≤ i) w6).drew).trans hc8 fun _ _ h => h) fun _ _ h => h)
                  clear hA8 hc8 y0 y1 y2 y3 y4 xx0 xx1 HM
                  cases over with
                  | true =>
                    have HF10 := Lib.hid (HFEW.out.more (show 4 * i ≤ 1000 by have := HIG.out; omega))
                    go_wp2
                    go_meet
                    case rel => exact ⟨_, bs, HF10.out, HA8.out.sub (List.sublist_cons_self _ _), HC8.out⟩
                  | false =>
                    have hob : blk w8 O = some (opO y n K (.slice oq bl.length cq) st) := HA8.out.mem (t := blkT O (opO y n K (.slice oq bl.length cq) st)) (by simp)
                    have y0 := cell_of_blk hob 0
                    have y1 := cell_of_blk hob 1
                    have y2 := cell_of_blk hob 2
                    have y3 := cell_of_blk hob 3
                    have y4 := cell_of_blk hob 4
                    clear hob
                    have hxb : blk w8 XA = some (oXI I) := HA8.out.mem (t := blkT XA (oXI I)) (by simp)
                    have xx0 := cell_of_blk hxb 0
                    have xx1 := cell_of_blk hxb 1
                    clear hxb
                    have HSTP := Lib.hid ((HA8.out.still ((Chg.refl _ w8).drew)).stepAny (j := 0) (by simpa using HC8.out.size) HFEW.out (by have := HIG.out; omega) (by have := HIG.out; omega) (by decide) y n K HOK.out.1 (by have := HOK.out.2.1; omega) HOK.out.2.2 oq bl cq HBL.out (fun wy hy => HBT.out.frame (HC8.out.trans (((Chg.refl (fun i => w.heap.size ≤ i) w8).drew).trans hy fun _ _ h => h) fun _ _ h => h) fun j hj h => by omega) st HST.out)
                    go_upto_region 35 with (fail)
                    go_still_tail 5, (by kernel_rfl)
                    change wpList _ _ _ _ _ (World.drew w8)
                    go_wp2_with fail
                    refine HSTP.out.mono ?_
                    rintro e w9 ⟨rfl, ⟨bs9, hf9, hA9⟩, hc9⟩
                    have HF9 := Lib.hid hf9
                    have HA9 := Lib.hid hA9
                    have HC9 := Lib.hid (HC8.out.trans (((Chg.refl (fun i => w.heap.size ≤ i) w8).drew).trans hc9 fun _ _ h => h) fun _ _ h => h)
                    clear hf9 hA9 hc9 y0 y1 y2 y3 y4 xx0 xx1 HSTP
                    go_wp2
                    go_meet
                    case rel => exact ⟨rfl, bs9, HF9.out, HA9.out, HC9.out⟩
                ·
                  subst hs1
                  have hob : blk w6 O = some (opO y n K (.slice oq bl.length cq) st) := HA6.out.mem (t := blkT O (opO y n K (.slice oq bl.length cq) st)) (by simp)
                  have y0 := cell_of_blk hob 0
                  have y1 := cell_of_blk hob 1
                  have y2 := cell_of_blk hob 2
                  have y3 := cell_of_blk hob 3
                  have y4 := cell_of_blk hob 4
                  clear hob
                  have hxb : blk w6 XA = some (oXI I) := HA6.out.mem (t := blkT XA (oXI I)) (by simp)
                  have xx0 := cell_of_blk hxb 0
                  have xx1 := cell_of_blk hxb 1
                  clear hxb
                  have HM := Lib.hid ((HA6.out.still ((Chg.refl _ w6).drew)).much (j := 1) (by simpa using HC6.out.size) (by decide) y n K HOK.out.2.2 oq bl.length cq st)
                  go_upto_region 33 with (fail)
                  go_still_tail 4, (by kernel_rfl)
                  change wpList _ _ _ _ _ (World.drew w6)
                  go_wp2_with fail
                  refine HM.out.mono ?_
                  rintro e w8 ⟨over, rfl, hA8, hc8⟩
                  have HA8 := Lib.hid hA8
                  have HC8 := Lib.hid (HC6.out.trans (((Chg.refl (fun i => w.heap.size ≤ i) w6).drew).trans hc8 fun _ _ h => h) fun _ _ h => h)
                  clear hA8 hc8 y0 y1 y2 y3 y4 xx0 xx1 HM
                  cases over with
                  | true =>
                    have HF10 := Lib.hid (HFEW.out.more (show 4 * i ≤ 1000 by have := HIG.out; omega))
                    go_wp2
                    go_meet
                    case rel => exact ⟨_, bs, HF10.out, HA8.out.sub (List.sublist_cons_self _ _), HC8.out⟩
                  | false =>
                    have hob : blk w8 O = some (opO y n K (.slice oq bl.length cq) st) := HA8.out.mem (t := blkT O (opO y n K (.slice oq bl.length cq) st)) (by simp)
                    have y0 := cell_of_blk hob 0
                    have y1 := cell_of_blk hob 1
                    have y2 := cell_of_blk hob 2
                    have y3 := cell_of_blk hob 3
                    have y4 := cell_of_blk hob 4
                    clear hob
                    have hxb : blk w8 XA = some (oXI I) := HA8.out.mem (t := blkT XA (oXI I)) (by simp)
                    have xx0 := cell_of_blk hxb 0
                    have xx1 := cell_of_blk hxb 1
                    clear hxb
                    have HSTP := Lib.hid ((HA8.out.still ((Chg.refl _ w8).drew)).stepAny (j := 1) (by simpa using HC8.out.size) HFEW.out (by have := HIG.out; omega) (by have := HIG.out; omega) (by decide) y n K HOK.out.1 (by have := HOK.out.2.1; omega) HOK.out.2.2 oq bl cq HBL.out (fun wy hy => HBT.out.frame (HC8.out.trans (((Chg.refl (fun i => w.heap.size ≤ i) w8).drew).trans hy fun _ _ h => h) fun _ _ h => h) fun j hj h => by omega) st HST.out)
                    go_upto_region 35 with (fail)
                    go_still_tail 5, (by kernel_rfl)
                    change wpList _ _ _ _ _ (World.drew w8)
                    go_wp2_with fail
                    refine HSTP.out.mono ?_
                    rintro e w9 ⟨rfl, ⟨bs9, hf9, hA9⟩, hc9⟩
                    have HF9 := Lib.hid hf9
                    have HA9 := Lib.hid hA9
                    have HC9 := Lib.hid (HC8.out.trans (((Chg.refl (fun i => w.heap.size ≤ i) w8).drew).trans hc9 fun _ _ h => h) fun _ _ h => h)
                    clear hf9 hA9 hc9 y0 y1 y2 y3 y4 xx0 xx1 HSTP
                    go_wp2
                    go_meet
                    case rel => exact ⟨rfl, bs9, HF9.out, HA9.out, HC9.out⟩
                ·
                  subst hs2
                  have hob : blk w6 O = some (opO y n K (.slice oq bl.length cq) st) := HA6.out.mem (t := blkT O (opO y n K (.slice oq bl.length cq) st)) (by simp)
                  have y0 := cell_of_blk hob 0
                  have y1 := cell_of_blk hob 1
                  have y2 := cell_of_blk hob 2
                  have y3 := cell_of_blk hob 3
                  have y4 := cell_of_blk hob 4
                  clear hob
                  have hpb : blk w6 PA = some (oPI I) := HA6.out.mem (t := blkT PA (oPI I)) (by simp)
                  have pp0 := cell_of_blk hpb 0
                  have pp1 := cell_of_blk hpb 1
                  have pp2 := cell_of_blk hpb 2
                  have pp3 := cell_of_blk hpb 3
                  clear hpb
                  by_cases h8 : y = 8
                  · have h8t : (y != 8) = false := by simp [h8]
                    have HF10 := Lib.hid (HFEW.out.more (show 4 * i ≤ 4 * i + 4 by omega))
                    have HA10 := Lib.hid (HA6.out.more (show 300 * i ≤ 300 * i + 300 by omega))
                    clear h8
                    go_wp2
                    go_meet
                    case rel => exact ⟨rfl, bs, HF10.out, HA10.out, HC6.out⟩
                  · have h8t : (y != 8) = true := by simp [h8]
                    have wk0 : IntKind.i64.wrap 0 = 0 := by decide
                    have wk1 : IntKind.i64.wrap (2 - 2) = 0 := by decide
                    have HRD := Lib.hid ((HA6.out.still ((Chg.refl _ w6).drew)).reads (j := 0) (by simpa using HC6.out.size) HFEW.out (by have := HIG.out; omega) (by decide) y n K HOK.out.2.2.2 (.slice oq bl.length cq) st)
                    clear h8
                    go_upto_region 37 with (fail)
                    go_still_tail 6, (by kernel_rfl)
                    change wpList _ _ _ _ _ (World.drew w6)
                    go_wp2_with fail
                    refine HRD.out.mono ?_
                    rintro e w9 ⟨rfl, ⟨bs9, hf9, hA9⟩, hc9⟩
                    have HF9 := Lib.hid hf9
                    have HA9 := Lib.hid (hA9.more (show 300 * i ≤ 300 * i + 300 by omega))
                    have HC9 := Lib.hid (HC6.out.trans (((Chg.refl (fun i => w.heap.size ≤ i) w6).drew).trans hc9 fun _ _ h => h) fun _ _ h => h)
                    clear hf9 hA9 hc9 y0 y1 y2 y3 y4 pp0 pp1 pp2 pp3 HRD
                    go_wp2
                    go_meet
                    case rel => exact ⟨rfl, bs9, HF9.out, HA9.out, HC9.out⟩
                ·
                  subst hs3
                  have hob : blk w6 O = some (opO y n K (.slice oq bl.length cq) st) := HA6.out.mem (t := blkT O (opO y n K (.slice oq bl.length cq) st)) (by simp)
                  have y0 := cell_of_blk hob 0
                  have y1 := cell_of_blk hob 1
                  have y2 := cell_of_blk hob 2
                  have y3 := cell_of_blk hob 3
                  have y4 := cell_of_blk hob 4
                  clear hob
                  have hpb : blk w6 PA = some (oPI I) := HA6.out.mem (t := blkT PA (oPI I)) (by simp)
                  have pp0 := cell_of_blk hpb 0
                  have pp1 := cell_of_blk hpb 1
                  have pp2 := cell_of_blk hpb 2
                  have pp3 := cell_of_blk hpb 3
                  clear hpb
                  by_cases h8 : y = 8
                  · have h8t : (y != 8) = false := by simp [h8]
                    have HF10 := Lib.hid (HFEW.out.more (show 4 * i ≤ 4 * i + 4 by omega))
                    have HA10 := Lib.hid (HA6.out.more (show 300 * i ≤ 300 * i + 300 by omega))
                    clear h8
                    go_wp2
                    go_meet
                    case rel => exact ⟨rfl, bs, HF10.out, HA10.out, HC6.out⟩
                  · have h8t : (y != 8) = true := by simp [h8]
                    have wk0 : IntKind.i64.wrap 1 = 1 := by decide
                    have wk1 : IntKind.i64.wrap (3 - 2) = 1 := by decide
                    have HRD := Lib.hid ((HA6.out.still ((Chg.refl _ w6).drew)).reads (j := 1) (by simpa using HC6.out.size) HFEW.out (by have := HIG.out; omega) (by decide) y n K HOK.out.2.2.2 (.slice oq bl.length cq) st)
                    clear h8
                    go_upto_region 37 with (fail)
                    go_still_tail 6, (by kernel_rfl)
                    change wpList _ _ _ _ _ (World.drew w6)
                    go_wp2_with fail
                    refine HRD.out.mono ?_
                    rintro e w9 ⟨rfl, ⟨bs9, hf9, hA9⟩, hc9⟩
                    have HF9 := Lib.hid hf9
                    have HA9 := Lib.hid (hA9.more (show 300 * i ≤ 300 * i + 300 by omega))
                    have HC9 := Lib.hid (HC6.out.trans (((Chg.refl (fun i => w.heap.size ≤ i) w6).drew).trans hc9 fun _ _ h => h) fun _ _ h => h)
                    clear hf9 hA9 hc9 y0 y1 y2 y3 y4 pp0 pp1 pp2 pp3 HRD
                    go_wp2
                    go_meet
                    case rel => exact ⟨rfl, bs9, HF9.out, HA9.out, HC9.out⟩
              case rest =>
                obtain ⟨rfl, bs', hf', hA', hch'⟩ := hcut
                have HF' := Lib.hid hf'
                have HA' := Lib.hid hA'
                have HCH' := Lib.hid hch'
                clear hf' hA' hch'
                go_upto_region 38 with (fail)
                obtain ⟨Z, hZ⟩ : ∃ Z : Int, Z = (i : Int) % 4 := ⟨_, rfl⟩
                have hz1 : (i : Int).tmod 4 = Z := by rw [hZ]; exact Int.tmod_eq_emod_of_nonneg (by omega)
                have hz2 : (i : Int) % 4 = Z := hZ.symm
                have wz : IntKind.i64.wrap Z = Z := by rw [IntKind.wrap_i64]; omega
                clear hZ
                go_upto_if 152 with (fail)
                go_cut [24] from 150 to 155 (fun s24 wq => s24 = .int .i64 i ∧ All w.heap.size wq B bs' (300 * i + 300) I [blkT O (opO y n K (.slice oq bl.length cq) st), blkT XA (oXI I), blkT PA (oPI I)] ∧ Chg (fun i => w.heap.size ≤ i) w wq)
                case first =>
                  by_cases h3 : Z = 3
                  · have h3t : (Z == 3) = true := by simp [h3]
                    rw [h3t]
                    clear h3 h3t hz1 hz2 wz
                    go_wp2_with fail
                    refine (newW_ok 100 (by omega) (by omega) _).mono ?_
                    rintro e w8 ⟨b8, m8, rfl, -, hc8⟩
                    have hca : Chg (fun _ => False) w8 (w8.alloc (.cells (u8s (List.replicate 8 9)).toArray 5 (0, 0))) := (Chg.refl _ _).alloc _
                    have hby := block_bytes (w := w8.alloc (.cells (u8s (List.replicate 8 9)).toArray 5 (0, 0))) (g := w8.heap.size) (xs := List.replicate 8 9) (e := 5) (fr := (0, 0)) (blk_alloc_at _ _ _ rfl) (fun b hb => by have := (List.mem_replicate.1 hb).2; omega) (by rw [List.length_replicate]; unfold maxLen; omega)
                    have HNR := Lib.hid (newR_ok hby (by rw [List.length_replicate]; omega))
                    have HC8 := Lib.hid (hc8.trans hca fun _ _ => id)
                    have HNR2 := Lib.hid (show Calls Tryd.prog 23 #[.slice (some ⟨w8.heap.size, 0, none⟩) 8 8] (w8.alloc (.cells #[.int .u8 9, .int .u8 9, .int .u8 9, .int .u8 9, .int .u8 9, .int .u8 9, .int .u8 9, .int .u8 9] 5 (0, 0))) fun e w' => ∃ b v, e = .returned (.pointer (some ⟨b, 0, none⟩)) ∧ Chg (fun _ => False) (w8.alloc (.cells #[.int .u8 9, .int .u8 9, .int .u8 9, .int .u8 9, .int .u8 9, .int .u8 9, .int .u8 9, .int .u8 9] 5 (0, 0))) w' from HNR.out.mono fun e w' he => by
                      obtain ⟨b, v, h1, -, h2⟩ := he
                      exact ⟨b, v, h1, h2⟩)
                    unfold ptrV
                    clear hc8 hca hby HNR
                    go_wp2_with fail
                    refine HNR2.out.mono ?_
                    rintro e w9 ⟨b9, v9, rfl, hc9⟩
                    have HC9 := Lib.hid (HC8.out.trans hc9 fun _ _ => id)
                    clear hc9 HNR2
                    go_wp2
                    go_meet
                    case rel => exact ⟨rfl, HA'.out.still HC9.out, HCH'.out.trans HC9.out fun _ _ h => h.elim⟩
                  · have h3t : (Z == 3) = false := by simp [h3]
                    rw [h3t]
                    clear h3 h3t hz1 hz2 wz
                    go_wp2
                    go_meet
                    case rel => exact ⟨rfl, HA'.out, HCH'.out⟩
                case rest =>
                  obtain ⟨rfl, hA3, hc3⟩ := hcut
                  have HA3 := Lib.hid hA3
                  have HC3 := Lib.hid hc3
                  have hpb : blk wc PA = some (oPI I) := HA3.out.mem (t := blkT PA (oPI I)) (by simp)
                  have pp0 := cell_of_blk hpb 0
                  have pp1 := cell_of_blk hpb 1
                  have pp2 := cell_of_blk hpb 2
                  have pp3 := cell_of_blk hpb 3
                  clear hpb
                  have HAL := Lib.hid (hA3.alike (j := 0) (by decide))
                  clear hA3 hc3 HA' HCH'
                  go_wp2_with fail
                  refine HAL.out.mono ?_
                  rintro e w8 ⟨rfl, hc8⟩
                  have HA8 := Lib.hid (HA3.out.still hc8)
                  have HC8 := Lib.hid (HC3.out.trans hc8 fun _ _ h => h.elim)
                  clear hc8 HAL pp0 pp1 pp2 pp3
                  have hpb : blk w8 PA = some (oPI I) := HA8.out.mem (t := blkT PA (oPI I)) (by simp)
                  have pp0 := cell_of_blk hpb 0
                  have pp1 := cell_of_blk hpb 1
                  have pp2 := cell_of_blk hpb 2
                  have pp3 := cell_of_blk hpb 3
                  clear hpb
                  have HAL := Lib.hid (HA8.out.alike (j := 1) (by decide))
                  go_wp2_with fail
                  refine HAL.out.mono ?_
                  rintro e w9 ⟨rfl, hc9⟩
                  have HA9 := Lib.hid (HA8.out.still hc9)
                  have HC9 := Lib.hid (HC8.out.trans hc9 fun _ _ h => h.elim)
                  have HLK := Lib.hid (HA9.out.looks HC9.out.size HF'.out (by have := HIG.out; omega))
                  clear hc9 HAL pp0 pp1 pp2 pp3
                  go_wp2_with fail
                  refine HLK.out.mono ?_
                  rintro e w10 ⟨rfl, ⟨bs10, hf10, hA10⟩, hc10⟩
                  have HF10 := Lib.hid hf10
                  have HA10 := Lib.hid (hA10.sub (List.sublist_cons_self _ _))
                  have HC10 := Lib.hid (HC9.out.trans hc10 fun _ _ h => h)
                  clear hf10 hA10 hc10 HLK
                  go_wp2
                  go_roundg (200 - (i + 1))
                  case measure => have := HIG.out; have := HQ2.out; omega
                  case rel => exact ⟨i + 1, bs10, by have := HQ2.out; omega, by go_num, HF10.out, HA10.out.more (by omega), HC10.out⟩
            · have q2' : ¬ (i : Int) < 200 := by omega
              clear q2 q1 hig
              have HF10 := Lib.hid (HFEW.out.more (show 4 * i ≤ 1000 by have := HIG.out; omega))
              go_wp2
              go_meet
              case rel => exact ⟨_, bs, HF10.out, HAr.out, HCH.out⟩
          · have q1' : ¬ (i : Int) < (ps.length : Int) := by omega
            clear q1 hig
            have HF10 := Lib.hid (HFEW.out.more (show 4 * i ≤ 1000 by have := HIG.out; omega))
            go_wp2
            go_meet
            case rel => exact ⟨_, bs, HF10.out, HAr.out, HCH.out⟩
      case rest =>
        obtain ⟨k, bs, hfew, hall, hch⟩ := hcut
        have HFW := Lib.hid hfew
        have HAL := Lib.hid hall
        have HCH := Lib.hid hch
        clear hfew hall hch HALL HCZ
        have hpb := pickI_bd mu 10 (by omega)
        obtain ⟨PM, hPM⟩ : ∃ PM, PM = pickI mu 10 := ⟨_, rfl⟩
        have HPM := Lib.hid (fun (wy : World) => (show Calls Tryd.prog 15 #[.int .i64 mu, .int .i64 10] wy fun e w' => e = .returned (.int .i64 PM) ∧ wy = w' by rw [hPM]; exact pick_any mu 10 HMU.out (by omega) (by omega) _))
        clear hpb hPM
        go_wp2_with fail
        refine (HPM.out _).mono ?_
        rintro e w5 ⟨rfl, rfl⟩
        go_upto_if 180 with (fail)
        go_cut [] from 178 to 221 (fun wq => ∃ (k' : Nat) (bs' : BS), bs'.few 1000 ∧ All w.heap.size wq B bs' k' I [blkT XA (oXI I), blkT PA (oPI I)] ∧ Chg (fun i => w.heap.size ≤ i) w wq)
        case first =>
          by_cases h3 : PM = 3
          · have h3t : (PM == 3) = true := by simp [h3]
            rw [h3t]
            clear h3 h3t HPM
            obtain ⟨R, s, pl, sz, dn, hl, hi, ⟨pv, hT⟩, hmem, hback⟩ := HAL.out.maker (j := 0) (by decide)
            have HT0 := Lib.hid hT
            have HMEM := Lib.hid (hmem (blkT XA (oXI I)) (by simp))
            have HBK := Lib.hid hback
            have HLI := Lib.hid (And.intro hl hi)
            have HB0 := Lib.hid HCH.out.size
            obtain ⟨q, hq⟩ : ∃ q, q = s.openV := ⟨_, rfl⟩
            have hqb := openV_bd hT.fine
            rw [← hq] at hqb
            have HQI := Lib.hid (show I64 q by unfold I64; omega)
            have HQ := Lib.hid hq
            obtain ⟨nz, hnz⟩ : ∃ nz : Nat, nz = 2000000 := ⟨_, rfl⟩
            have HNZ := Lib.hid hnz
            obtain ⟨zl, hzl⟩ : ∃ zl : List Int, zl = List.replicate nz 0 := ⟨_, rfl⟩
            have HZL := Lib.hid (show zl.length = 2000000 by rw [hzl, List.length_replicate, hnz])
            have HMK := Lib.hid (fun (wy : World) => (show (Instr.makeSlice 24 (.int .i64 2000000) (.int .i64 2000000)).run Tryd.prog wy = .ok (.slice (some ⟨wy.heap.size, 0, none⟩) 2000000 2000000) (wy.alloc (.cells (u8s zl).toArray 5 (0, 0))) by
              have h := make_noughts nz (by omega) wy
              rw [← hzl] at h
              have e : ((nz : Nat) : Int) = 2000000 := by omega
              rw [e, hnz] at h
              exact h))
            have HZB := Lib.hid (fun (wy : World) (g : Nat) (h : blk wy g = some (.cells (u8s zl).toArray 5 (0, 0))) => (show BytesIs wy (.slice (some ⟨g, 0, none⟩) zl.length zl.length) zl from block_bytes h (fun b hb => by rw [hzl] at hb; have := (List.mem_replicate.1 hb).2; omega) (by rw [HZL.out]; unfold maxLen; omega)))
            clear hT hmem hback hl hi hq hqb hzl hnz
            have hxa : blk wc XA = some (oXI I) := HT0.out.mem (t := blkT XA (oXI I)) (by simp [HMEM.out])
            have hx0 : blk wc (I.X 0) = some (mkO (I.b 0) (I.c 0) pv sz dn) := HT0.out.mem (t := blkT (I.X 0) (mkO (I.b 0) (I.c 0) pv sz dn)) (by simp)
            have a0 := cell_of_blk hxa 0
            have m0 := cell_of_blk hx0 0
            have m1 := cell_of_blk hx0 1
            clear hxa hx0
            obtain ⟨m, v, hw, hnx⟩ := HT0.out.wr HB0.out
            have HW := Lib.hid hw
            have HNX := Lib.hid hnx
            clear hw hnx
            have HCL := Lib.hid (show Calls Tryd.prog 42 #[ptrV (I.b 0)] wc fun r w' => r = .returned (.int .i64 q) ∧ WGoes wc w' w.heap.size (I.b 0) m v s.opened by rw [HQ.out]; exact wopen_ok HW.out HB0.out)
            unfold ptrV at HCL
            go_wp2_with fail
            refine HCL.out.mono ?_
            rintro e w6 ⟨rfl, hg⟩
            have k1 := HNX.out _ _ hg
            have HT1 := Lib.hid k1.1
            have HC1 := Lib.hid (HCH.out.trans k1.2 fun _ _ h => h)
            have HB1 := Lib.hid HC1.out.size
            clear hg k1 a0 m0 m1 HCL
            have hxa : blk w6 XA = some (oXI I) := HT1.out.mem (t := blkT XA (oXI I)) (by simp [HMEM.out])
            have hx0 : blk w6 (I.X 0) = some (mkO (I.b 0) (I.c 0) pv sz dn) := HT1.out.mem (t := blkT (I.X 0) (mkO (I.b 0) (I.c 0) pv sz dn)) (by simp)
            have a0 := cell_of_blk hxa 0
            have m0 := cell_of_blk hx0 0
            have m1 := cell_of_blk hx0 1
            clear hxa hx0
            obtain ⟨v, o, hw, hnx⟩ := HT1.out.vw HB1.out
            have HW := Lib.hid hw
            have HNX := Lib.hid hnx
            clear hw hnx
            have HCL := Lib.hid (show Calls Tryd.prog 43 #[.pointer (some ⟨I.c 0, 0, none⟩)] w6 fun r w' => r = .returned (.int .i64 q) ∧ VwGoes w6 w' w.heap.size (I.c 0) v o s.opened by rw [HQ.out]; exact vwopen_ok HW.out HB1.out)
            go_wp2_with fail
            refine HCL.out.mono ?_
            rintro e w7 ⟨rfl, hg⟩
            have k1 := HNX.out _ _ hg
            have HT2 := Lib.hid k1.1
            have HC2 := Lib.hid (HC1.out.trans k1.2 fun _ _ h => h)
            have HB2 := Lib.hid HC2.out.size
            clear hg k1 a0 m0 m1 HCL
            have hmk := HMK.out w7
            go_upto_region 50 with (fail)
            obtain ⟨w8, hw8⟩ : ∃ w8, w8 = w7.alloc (.cells (u8s zl).toArray 5 (0, 0)) := ⟨_, rfl⟩
            obtain ⟨LZ, hLZ⟩ : ∃ LZ, LZ = w7.heap.size := ⟨_, rfl⟩
            have hc8 : Chg (fun _ => False) w7 w8 := by rw [hw8]; exact (Chg.refl _ _).alloc _
            have hz8 : blk w8 LZ = some (.cells (u8s zl).toArray 5 (0, 0)) := by rw [hw8, hLZ]; exact blk_alloc_at _ _ _ rfl
            have HT3 := Lib.hid (HT2.out.add HB2.out hc8 (u := blkT LZ (.cells (u8s zl).toArray 5 (0, 0))) hz8 (fun i hi => by
              have hi : i = LZ := hi
              omega))
            have HC3 := Lib.hid (HC2.out.trans hc8 fun _ _ h => h.elim)
            have HB3 := Lib.hid HC3.out.size
            rw [← hw8, ← hLZ]
            clear hw8 hLZ hc8 hz8 hmk HMK
            have HZ3 := Lib.hid (show BytesIs w8 (.slice (some ⟨LZ, 0, none⟩) zl.length 2000000) zl by have := HZB.out w8 LZ (HT3.out.mem (t := blkT LZ (.cells (u8s zl).toArray 5 (0, 0))) (by simp)); rw [show (Value.slice (some ⟨LZ, 0, none⟩) zl.length 2000000) = Value.slice (some ⟨LZ, 0, none⟩) zl.length zl.length from by rw [HZL.out]]; exact this)
            have hxa : blk w8 XA = some (oXI I) := HT3.out.mem (t := blkT XA (oXI I)) (by simp [HMEM.out])
            have hx0 : blk w8 (I.X 0) = some (mkO (I.b 0) (I.c 0) pv sz dn) := HT3.out.mem (t := blkT (I.X 0) (mkO (I.b 0) (I.c 0) pv sz dn)) (by simp)
            have a0 := cell_of_blk hxa 0
            have m0 := cell_of_blk hx0 0
            have m1 := cell_of_blk hx0 1
            clear hxa hx0
            obtain ⟨m, v, hw, hnx⟩ := HT3.out.wr HB3.out
            have HW := Lib.hid hw
            have HNX := Lib.hid hnx
            clear hw hnx
            have HCL := Lib.hid (show Calls Tryd.prog 44 #[ptrV (I.b 0), .slice (some ⟨LZ, 0, none⟩) 2000000 2000000] w8 fun r w' => r = .returned (.tuple #[]) ∧ WGoes w8 w' w.heap.size (I.b 0) m v (s.opened.raw zl) by have h := wraw_ok HW.out HB3.out HZ3.out (by rw [HZL.out]; omega); rw [HZL.out] at h; exact h)
            unfold ptrV at HCL
            go_wp2_with fail
            refine HCL.out.mono ?_
            rintro e w9 ⟨rfl, hg⟩
            have k1 := HNX.out _ _ hg
            have HT4 := Lib.hid k1.1
            have HC4 := Lib.hid (HC3.out.trans k1.2 fun _ _ h => h)
            have HB4 := Lib.hid HC4.out.size
            clear hg k1 a0 m0 m1 HCL
            have HZ4 := Lib.hid (show BytesIs w9 (.slice (some ⟨LZ, 0, none⟩) zl.length 2000000) zl by have := HZB.out w9 LZ (HT4.out.mem (t := blkT LZ (.cells (u8s zl).toArray 5 (0, 0))) (by simp)); rw [show (Value.slice (some ⟨LZ, 0, none⟩) zl.length 2000000) = Value.slice (some ⟨LZ, 0, none⟩) zl.length zl.length from by rw [HZL.out]]; exact this)
            have hxa : blk w9 XA = some (oXI I) := HT4.out.mem (t := blkT XA (oXI I)) (by simp [HMEM.out])
            have hx0 : blk w9 (I.X 0) = some (mkO (I.b 0) (I.c 0) pv sz dn) := HT4.out.mem (t := blkT (I.X 0) (mkO (I.b 0) (I.c 0) pv sz dn)) (by simp)
            have a0 := cell_of_blk hxa 0
            have m0 := cell_of_blk hx0 0
            have m1 := cell_of_blk hx0 1
            clear hxa hx0
            obtain ⟨v, o, hw, hnx⟩ := HT4.out.vw HB4.out
            have HW := Lib.hid hw
            have HNX := Lib.hid hnx
            clear hw hnx
            have HCL := Lib.hid (show Calls Tryd.prog 45 #[.pointer (some ⟨I.c 0, 0, none⟩), .slice (some ⟨LZ, 0, none⟩) 2000000 2000000] w9 fun r w' => r = .returned (.tuple #[]) ∧ VwGoes w9 w' w.heap.size (I.c 0) v o (s.opened.raw zl) by have h := vwraw_ok HW.out HB4.out HZ4.out (by rw [HZL.out]; omega); rw [HZL.out] at h; exact h)
            go_wp2_with fail
            refine HCL.out.mono ?_
            rintro e w10 ⟨rfl, hg⟩
            have k1 := HNX.out _ _ hg
            have HT5 := Lib.hid k1.1
            have HC5 := Lib.hid (HC4.out.trans k1.2 fun _ _ h => h)
            have HB5 := Lib.hid HC5.out.size
            clear hg k1 a0 m0 m1 HCL
            have hxa : blk w10 XA = some (oXI I) := HT5.out.mem (t := blkT XA (oXI I)) (by simp [HMEM.out])
            have hx0 : blk w10 (I.X 0) = some (mkO (I.b 0) (I.c 0) pv sz dn) := HT5.out.mem (t := blkT (I.X 0) (mkO (I.b 0) (I.c 0) pv sz dn)) (by simp)
            have a0 := cell_of_blk hxa 0
            have m0 := cell_of_blk hx0 0
            have m1 := cell_of_blk hx0 1
            clear hxa hx0
            obtain ⟨m, v, hw, hnx⟩ := HT5.out.wr HB5.out
            have HW := Lib.hid hw
            have HNX := Lib.hid hnx
            clear hw hnx
            have HCL := Lib.hid (wshut_ok HW.out q HQI.out)
            unfold ptrV at HCL
            go_wp2_with fail
            refine HCL.out.mono ?_
            rintro e w11 ⟨rfl, hg⟩
            have k1 := HNX.out _ _ hg
            have HT6 := Lib.hid k1.1
            have HC6 := Lib.hid (HC5.out.trans k1.2 fun _ _ h => h)
            have HB6 := Lib.hid HC6.out.size
            clear hg k1 a0 m0 m1 HCL
            have hxa : blk w11 XA = some (oXI I) := HT6.out.mem (t := blkT XA (oXI I)) (by simp [HMEM.out])
            have hx0 : blk w11 (I.X 0) = some (mkO (I.b 0) (I.c 0) pv sz dn) := HT6.out.mem (t := blkT (I.X 0) (mkO (I.b 0) (I.c 0) pv sz dn)) (by simp)
            have a0 := cell_of_blk hxa 0
            have m0 := cell_of_blk hx0 0
            have m1 := cell_of_blk hx0 1
            clear hxa hx0
            obtain ⟨v, o, hw, hnx⟩ := HT6.out.vw HB6.out
            have HW := Lib.hid hw
            have HNX := Lib.hid hnx
            clear hw hnx
            have HCL := Lib.hid (vwshut_ok HW.out HB6.out q HQI.out)
            go_wp2_with fail
            refine HCL.out.mono ?_
            rintro e w12 ⟨rfl, hg⟩
            have k1 := HNX.out _ _ hg
            have HT7 := Lib.hid k1.1
            have HC7 := Lib.hid (HC6.out.trans k1.2 fun _ _ h => h)
            have HB7 := Lib.hid HC7.out.size
            clear hg k1 a0 m0 m1 HCL
            have HFIN := Lib.hid (HBK.out w12 bs _ pl sz dn k (Nat.le_refl _) HLI.out.1 HLI.out.2 ⟨pv, HT7.out.sub (List.sublist_cons_self _ _)⟩)
            go_wp2
            go_meet
            case rel => exact ⟨k, bs, HFW.out, HFIN.out, HC7.out⟩
          · have h3t : (PM == 3) = false := by simp [h3]
            rw [h3t]
            clear h3 h3t
            go_wp2
            go_meet
            case rel => exact ⟨k, bs, HFW.out, HAL.out, HCH.out⟩
        case rest =>
          obtain ⟨k', bs', hf', hA', hc'⟩ := hcut
          have HDF0 := Lib.hid hf'
          have HD0 := Lib.hid hA'
          have HDC0 := Lib.hid hc'
          clear hf' hA' hc' HFW HAL HCH HPM
          obtain ⟨R, s, pl, sz, dn, -, -, ⟨pv, hT⟩, -, -⟩ := HD0.out.maker (j := 0) (by decide)
          have hX : blk wc (I.X 0) = some (mkO (I.b 0) (I.c 0) pv sz dn) := hT.mem (t := blkT (I.X 0) (mkO (I.b 0) (I.c 0) pv sz dn)) (by simp)
          have hxa : blk wc XA = some (oXI I) := HD0.out.mem (t := blkT XA (oXI I)) (by simp)
          have a0 := cell_of_blk hxa 0
          have m0 := cell_of_blk hX 0
          have m1 := cell_of_blk hX 1
          have HDN := Lib.hid ((HD0.out.still ((Chg.refl _ wc).drew)).done (j := 0) (by simpa using HDC0.out.size) HDF0.out (by omega) (by decide))
          clear hT hX hxa
          go_upto_region 54 with (fail)
          go_still_tail 11, (by kernel_rfl)
          change wpList _ _ _ _ _ (World.drew wc)
          go_wp2_with fail
          refine HDN.out.mono ?_
          rintro e w6 ⟨rfl, ⟨bs0, hf, hA⟩, hc⟩
          have HDF1 := Lib.hid hf
          have HD1 := Lib.hid hA
          have HDC1 := Lib.hid (HDC0.out.trans (((Chg.refl (fun i => w.heap.size ≤ i) wc).drew).trans hc fun _ _ h => h) fun _ _ h => h)
          clear hf hA hc a0 m0 m1 HDN
          obtain ⟨R, s, pl, sz, dn, -, -, ⟨pv, hT⟩, -, -⟩ := HD1.out.maker (j := 1) (by decide)
          have hX : blk w6 (I.X 1) = some (mkO (I.b 1) (I.c 1) pv sz dn) := hT.mem (t := blkT (I.X 1) (mkO (I.b 1) (I.c 1) pv sz dn)) (by simp)
          have hxa : blk w6 XA = some (oXI I) := HD1.out.mem (t := blkT XA (oXI I)) (by simp)
          have a0 := cell_of_blk hxa 1
          have m0 := cell_of_blk hX 0
          have m1 := cell_of_blk hX 1
          have HDN := Lib.hid ((HD1.out.still ((Chg.refl _ w6).drew)).done (j := 1) (by simpa using HDC1.out.size) HDF1.out (by omega) (by decide))
          clear hT hX hxa
          go_upto_region 55 with (fail)
          go_still_tail 11, (by kernel_rfl)
          change wpList _ _ _ _ _ (World.drew w6)
          go_wp2_with fail
          refine HDN.out.mono ?_
          rintro e w7 ⟨rfl, ⟨bs1, hf, hA⟩, hc⟩
          have HDF2 := Lib.hid hf
          have HD2 := Lib.hid hA
          have HDC2 := Lib.hid (HDC1.out.trans (((Chg.refl (fun i => w.heap.size ≤ i) w6).drew).trans hc fun _ _ h => h) fun _ _ h => h)
          clear hf hA hc a0 m0 m1 HDN
          have HLK := Lib.hid (HD2.out.looks HDC2.out.size HDF2.out (by omega))
          go_wp2_with fail
          refine HLK.out.mono ?_
          rintro e w8 ⟨rfl, ⟨bs8, hf8, hA8⟩, hc8⟩
          have HC8 := Lib.hid (HDC2.out.trans hc8 fun _ _ h => h)
          have HLK2 := Lib.hid (hA8.looks HC8.out.size hf8 (by omega))
          clear hf8 hA8 hc8 HLK
          go_wp2_with fail
          refine HLK2.out.mono ?_
          rintro e w9 ⟨rfl, -, hc9⟩
          have HC9 := Lib.hid (HC8.out.trans hc9 fun _ _ h => h)
          clear hc9
          go_wp2
          go_ret
          exact ⟨rfl, HC9.out.mono fun i hi h => by omega⟩

theorem turns_row (w : World) (hT : TableAt w) (a0 : Int) (w0 : (Lit.int .i64 a0).wf = true) {v1 : Value} (h1 : ∃ us, BytesIs w v1 us ∧ us.length ≤ 140737488355328) {v2 : Value} (h2 : ∃ us, BytesIs w v2 us ∧ us.length ≤ 140737488355328) {v3 : Value} (h3 : ∃ ps, TurnsAre w v3 ps) (a4 : Int) (w4 : (Lit.int .i64 a4).wf = true) :
    Calls Tryd.prog 9 #[.int .i64 a0, v1, v2, v3, .int .i64 a4] w fun e w' => e = .returned (.bool true) ∧ Chg (fun _ => False) w w' := by
  obtain ⟨xs, hx, hxl⟩ := h1
  obtain ⟨ys, hy, hyl⟩ := h2
  obtain ⟨ps, hp⟩ := h3
  exact turns_walk w hT a0 a4 (i64_of w0) (i64_of w4) hx hxl hy hyl hp
end Go.Proofs.YtfihpiommicdbaaDoor
