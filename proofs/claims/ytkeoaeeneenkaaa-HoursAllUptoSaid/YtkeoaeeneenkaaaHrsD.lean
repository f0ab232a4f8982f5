/- Hours: a table out of raw numbers. No condition. -/
import Derived.Test.YtkeoaeeneenkaaaHrsC
import Derived.Test.YtkeoaeeneenkaaaLibNums
namespace Go.Proofs.Ytkeoaeeneenkaaa
open Go.RowKit Go.Cl
set_option linter.unusedVariables false
set_option linter.unusedSimpArgs false
attribute [local go_sem] lt_add_one' blk_alloc_past blk_alloc_at blk_drew blk_setCell_ne

theorem NumsAre.at {k : IntKind} {w : World} {oa : Option Addr} {cap n : Nat} {xs : List Int} (h : NumsAre k w (.slice oa n cap) xs) {i : Nat} {x : Int} (hx : xs[i]? = some x) : ∃ g o, oa = some ⟨g, o, none⟩ ∧ w.cell? ⟨g, o + i, none⟩ = some (.int k x) ∧ (Lit.int k x).wf = true := by
  obtain ⟨oa', cap', hv, _, _, _, h5⟩ := h
  simp only [Value.slice.injEq] at hv
  obtain ⟨rfl, rfl, rfl⟩ := hv
  obtain ⟨a, rfl, hc, hw⟩ := h5 i x hx
  have h0 : 0 < xs.length := Nat.lt_of_le_of_lt (Nat.zero_le i) (List.getElem?_eq_some_iff.1 hx).1
  obtain ⟨a', ha', hc0, _⟩ := h5 0 _ (List.getElem?_eq_getElem h0)
  obtain rfl := Option.some.inj ha'
  obtain ⟨g, o, spot⟩ := a
  have hs : spot = none := by simpa [Addr.add] using World.cell?_spot hc0
  subst hs
  rw [addr_add] at hc
  exact ⟨g, o, rfl, hc, hw⟩

theorem i64_of {n : Int} (h : (Lit.int .i64 n).wf = true) : I64 n := by
  simp [Lit.wf, IntKind.min, IntKind.max, IntKind.signed, IntKind.bits] at h; unfold I64; omega
theorem u64_of {n : Int} (h : (Lit.int .u64 n).wf = true) : U64 n := by
  simp [Lit.wf, IntKind.min, IntKind.max, IntKind.signed, IntKind.bits] at h; unfold U64; omega

/-- Windows laid one behind the other, up to a tick. -/
structure Laid (at' : Int) (l : List Win) : Prop where
  each : ∀ x ∈ l, 1 ≤ x.c ∧ x.c ≤ 8 ∧ 1 ≤ x.n ∧ 0 ≤ x.s ∧ x.s + x.n ≤ at'
  sorted : l.Pairwise fun a b => a.s + a.n ≤ b.s

theorem Laid.snoc {a : Int} {l : List Win} (h : Laid a l) {x : Win} (h1 : 1 ≤ x.c) (h2 : x.c ≤ 8) (h3 : 1 ≤ x.n) (h4 : a ≤ x.s) (h0 : 0 ≤ x.s) : Laid (x.s + x.n) (l ++ [x]) := by
  refine ⟨fun y hy => ?_, List.pairwise_append.2 ⟨h.sorted, by simp, fun y hy z hz => ?_⟩⟩
  · rcases List.mem_append.1 hy with hy | hy
    · have := h.each y hy; omega
    · simp at hy; subst hy; omega
  · simp at hz; subst hz
    have := h.each y hy; omega

theorem Laid.ok {a : Int} {l : List Win} (h : Laid a l) (h1 : 1 ≤ l.length) (h2 : l.length ≤ 32) (ha0 : 0 ≤ a) (ha : a ≤ 5000) : Tab.Ok ⟨a + 5, l⟩ :=
  ⟨by show 1 ≤ a + 5; omega, by show a + 5 ≤ _; omega, h1, h2, fun x hx => by have := h.each x hx; exact ⟨this.1, this.2.1, this.2.2.1, this.2.2.2.1, by show _ ≤ a + 5; omega⟩, h.sorted⟩

theorem winCells_snoc (l : List Win) (x : Win) : winCells (l ++ [x]) = winCells l ++ [.int .i64 x.c, .int .u64 x.s, .int .u64 x.n] := by
  simp [winCells, Win.cells]

theorem src_new (w : World) (a b c : Int) : SrcIs (w.alloc (.cells #[.int .i64 a, .int .u64 b, .int .u64 c] 36 (0, 0))) 3 (some ⟨w.heap.size, 0, none⟩) 1 [.int .i64 a, .int .u64 b, .int .u64 c] := by
  have hb := blk_alloc_at w (.cells #[.int .i64 a, .int .u64 b, .int .u64 c] 36 (0, 0)) _ rfl
  refine SrcIs.some rfl (by simp [Value.oneCell']) fun j u hu => ?_
  rw [addr_add, Nat.zero_add, cell_of_blk hb]
  simpa using hu

def TablePost (w : World) (e : Ending) (w' : World) : Prop :=
  ∃ b sv T, e = .returned (.tuple #[ptrV b, .int .u64 T.major, .int .i64 T.n]) ∧ HourIs w' b sv T ∧ T.major ≤ 5005 ∧ w.heap.size ≤ b ∧ (∀ g, sv.ownBlock = some g → w.heap.size ≤ g) ∧ Chg (fun _ => False) w w'

set_option maxHeartbeats 2000000 in
set_option maxRecDepth 100000 in
theorem table_any {w : World} {v : Value} {raw : List Int} (h : NumsAre .i64 w v raw) : Calls Try.prog 6 #[v] w (TablePost w) := by
  obtain ⟨oa, cap, rfl, hl1, hl2, hn, _⟩ := id h
  have HN := Lib.hid (fun i x (hx : raw[i]? = some x) => NumsAre.at h hx)
  have P := Lib.hid pick_any
  obtain ⟨i0, hi, hz0, hz1, hz2⟩ := infoW
  unfold maxLen at hl2
  clear h hn
  go_enter Try.func6, Try.ntmps6
  go_upto_block 0 with (fail)
  go_cut [5, 6] from 11 to 54 (fun s5 s6 wq => ∃ (v : Value) (l : List Win) (a : Int), s5 = v ∧ s6 = .int .u64 a ∧ wq.ownsRow w.heap.size 36 3 v l.length (winCells l) ∧ Laid a l ∧ l.length ≤ 32 ∧ 0 ≤ a ∧ a ≤ 149 * l.length ∧ Chg (fun _ => False) w wq)
  case first =>
    go_wp2_with (fail)
    go_loopw [5, 6, 7] (fun s5 s6 s7 wr => ∃ (v : Value) (l : List Win) (a : Int), s5 = v ∧ s6 = .int .u64 a ∧ s7 = .int .i64 (3 * l.length : Nat) ∧ wr.ownsRow w.heap.size 36 3 v l.length (winCells l) ∧ Laid a l ∧ l.length ≤ 32 ∧ 0 ≤ a ∧ a ≤ 149 * l.length ∧ Chg (fun _ => False) w wr) (fun _ _ s7 _ => 100 - (intOf s7).toNat)
    case atStart => exact ⟨_, [], 0, rfl, rfl, rfl, ⟨by simp [winCells], .inl ⟨rfl, rfl⟩⟩, ⟨by simp, by simp⟩, by simp, by omega, by simp, Chg.refl _ _⟩
    case round =>
      obtain ⟨v, l, a, rfl, rfl, rfl, hrow, hla, hlen, ha0, ha1, hch⟩ := hrel
      obtain ⟨ol, cl, rfl, hcl, hcm, _⟩ := row_form hrow
      have HR := Lib.hid hrow
      have HL := Lib.hid hla
      have HC := Lib.hid hch
      unfold maxLen at hcm
      clear hrow hla hch
      by_cases q1 : 3 * l.length + 2 < raw.length
      · by_cases q2 : l.length < 32
        · obtain ⟨g, o, rfl, c0, y0⟩ := HN.out _ _ (List.getElem?_eq_getElem (show 3 * l.length < raw.length by omega))
          obtain ⟨g1, o1, he1, c1, y1⟩ := HN.out _ _ (List.getElem?_eq_getElem (show 3 * l.length + 1 < raw.length by omega))
          obtain ⟨g2, o2, he2, c2, y2⟩ := HN.out _ _ (List.getElem?_eq_getElem (show 3 * l.length + 2 < raw.length by omega))
          simp only [Option.some.injEq, Addr.mk.injEq, and_true] at he1 he2
          obtain ⟨rfl, rfl⟩ := he1
          obtain ⟨rfl, rfl⟩ := he2
          have d0 := cell_frame HC.out (fun _ _ => id) c0
          have d1 := cell_frame HC.out (fun _ _ => id) c1
          have d2 := cell_frame HC.out (fun _ _ => id) c2
          generalize raw[3 * l.length] = r0 at *
          generalize raw[3 * l.length + 1] = r1 at *
          generalize raw[3 * l.length + 2] = r2 at *
          have b0 := pickI_bd r0 50 (by omega)
          have b1 := pickI_bd r1 100 (by omega)
          have b2 := pickI_bd r2 8 (by omega)
          have P0 := Lib.hid (fun wy => P.out r0 50 (i64_of y0) (by omega) (by omega) wy)
          have P1 := Lib.hid (fun wy => P.out r1 100 (i64_of y1) (by omega) (by omega) wy)
          have P2 := Lib.hid (fun wy => P.out r2 8 (i64_of y2) (by omega) (by omega) wy)
          generalize pickI r0 50 = p0 at *
          generalize pickI r1 100 = p1 at *
          generalize pickI r2 8 = p2 at *
          clear c0 c1 c2 y0 y1 y2
          obtain ⟨b00, b01⟩ := b0
          obtain ⟨b10, b11⟩ := b1
          obtain ⟨b20, b21⟩ := b2
          generalize hn : l.length = n at *
          have HNN := Lib.hid hn
          clear hn
          have i1 : 3 * (n : Int) + 2 < (raw.length : Int) := by omega
          go_wp2_with (fail)
          refine ((P0.out _).mono ?_)
          rintro e w5 ⟨rfl, rfl⟩
          go_wp2_with (fail)
          refine ((P1.out _).mono ?_)
          rintro e w5 ⟨rfl, rfl⟩
          go_wp2_with (fail)
          refine ((P2.out _).mono ?_)
          rintro e w5 ⟨rfl, rfl⟩
          have hnews := src_new wr (1 + p2) (a + p0) (1 + p1)
          have HNW := Lib.hid hnews
          have HRA := Lib.hid (row_frame HR.out ((Chg.refl (fun _ => False) wr).alloc (.cells #[.int .i64 (1 + p2), .int .u64 (a + p0), .int .u64 (1 + p1)] 36 (0, 0))) fun _ _ => id)
          have HSZ := Lib.hid HC.out.size
          clear hnews
          go_wp2_with (at_builtin; refine wpList_app rfl _ _ 39 rfl w.heap.size 36 i0 (.agg #[.int .i64 0, .int .u64 0, .int .u64 0]) 3 24 Try.underlying39 hi hz0 hz1 hz2 rfl (by decide) _ n (winCells l) rfl HRA.out _ 1 1 _ rfl HNW.out ?_ ?_ ?_ ?_ ?_)
          · intro h; cases h
          · unfold maxLen; omega
          · omega
          · have := HSZ.out; simp; omega
          · intro v' w' hown hgrow hlie
            have HO := Lib.hid hown
            have HG := Lib.hid hgrow
            clear hown hgrow hlie
            have ap0 : 0 ≤ a + p0 := by omega
            obtain ⟨ov, cv, rfl, _⟩ := row_form HO.out
            go_wp2
            go_roundw
            case rel =>
              have hLs := HL.out.snoc (x := ⟨1 + p2, a + p0, 1 + p1⟩) (by show 1 ≤ 1 + p2; omega) (by show 1 + p2 ≤ 8; omega) (by show 1 ≤ 1 + p1; omega) (by show a ≤ a + p0; omega) (by show 0 ≤ a + p0; omega)
              refine ⟨_, l ++ [⟨1 + p2, a + p0, 1 + p1⟩], a + p0 + (1 + p1), rfl, by go_num, ?_, ?_, hLs, ?_, by omega, ?_, ?_⟩
              · simp [HNN.out]; omega
              · have := HO.out; rw [winCells_snoc]; simpa [HNN.out] using this
              · simp [HNN.out]; omega
              · simp [HNN.out]; omega
              · exact (HC.out.alloc _).trans (Chg.of_grown HG.out) fun i hi h => by have := (row_block HRA.out h.symm).1; omega
            case measure => simp [intOf]; omega
        · have q2' : ¬ ((l.length : Int) < 32) := by omega
          have q1' : 3 * (l.length : Int) + 2 < (raw.length : Int) := by omega
          go_wp2
          go_meet
          case rel => exact ⟨_, l, a, rfl, rfl, HR.out, HL.out, hlen, ha0, ha1, HC.out⟩
      · have q1' : ¬ (3 * (l.length : Int) + 2 < (raw.length : Int)) := by omega
        go_wp2
        go_meet
        case rel => exact ⟨_, l, a, rfl, rfl, HR.out, HL.out, hlen, ha0, ha1, HC.out⟩
  case rest =>
    obtain ⟨v, l, a, rfl, rfl, hrow, hla, hlen, ha0, ha1, hch⟩ := hcut
    obtain ⟨ol, cl, rfl, hcl, hcm, hol, hol2⟩ := row_form hrow
    have HR := Lib.hid hrow
    have HL := Lib.hid hla
    have HC := Lib.hid hch
    have HF := Lib.hid (And.intro hol hol2)
    have HCM := Lib.hid hcm
    clear hrow hla hch hol hol2 HN hcm
    go_upto_if 57 with (fail)
    go_cut [5, 6] from 11 to 75 (fun s5 s6 wq => ∃ (v : Value) (l : List Win) (a : Int), s5 = v ∧ s6 = .int .u64 a ∧ wq.ownsRow w.heap.size 36 3 v l.length (winCells l) ∧ Laid a l ∧ 1 ≤ l.length ∧ l.length ≤ 32 ∧ 0 ≤ a ∧ a ≤ 5000 ∧ Chg (fun _ => False) w wq)
    case first =>
      by_cases q : l.length = 0
      · have hl0 : l = [] := List.length_eq_zero_iff.1 q
        subst hl0
        have HNW := Lib.hid (src_new wc 1 3 4)
        have HRA := Lib.hid (row_frame HR.out ((Chg.refl (fun _ => False) wc).alloc (.cells #[.int .i64 1, .int .u64 3, .int .u64 4] 36 (0, 0))) fun _ _ => id)
        have HSZ := Lib.hid HC.out.size
        clear q
        go_wp2_with (at_builtin; refine wpList_app rfl _ _ 39 rfl w.heap.size 36 i0 (.agg #[.int .i64 0, .int .u64 0, .int .u64 0]) 3 24 Try.underlying39 hi hz0 hz1 hz2 rfl (by decide) _ 0 (winCells []) rfl HRA.out _ 1 1 _ rfl HNW.out ?_ ?_ ?_ ?_ ?_)
        · intro h; cases h
        · unfold maxLen; omega
        · omega
        · have := HSZ.out; simp; omega
        · intro v' w' hown hgrow hlie
          have HO := Lib.hid hown
          have HG := Lib.hid hgrow
          clear hown hgrow hlie
          obtain ⟨ov, cv, rfl, _⟩ := row_form HO.out
          go_wp2
          go_meet
          case rel =>
            refine ⟨_, [⟨1, 3, 4⟩], 7, rfl, rfl, HO.out, ⟨by simp, by simp⟩, by simp, by simp, by omega, by omega, ?_⟩
            exact (HC.out.alloc _).trans (Chg.of_grown HG.out) fun i hi h => by have := (row_block HRA.out h.symm).1; omega
      · have q' : ((l.length : Int) == 0) = false := beq_eq_false_iff_ne.2 (by omega)
        go_wp2
        go_meet
        case rel => exact ⟨_, l, a, rfl, rfl, HR.out, HL.out, by omega, hlen, ha0, by omega, HC.out⟩
    case rest =>
      clear HR HL HC HF HCM hcl ha0 ha1 hlen
      obtain ⟨v, l, a, rfl, rfl, hrow, hla, hl1, hlen, ha0, ha1, hch⟩ := hcut
      have hok := hla.ok hl1 hlen ha0 ha1
      obtain ⟨ol, cl, rfl, hcl, hcm, hol, hol2⟩ := row_form hrow
      obtain ⟨ol', cl', hv', hsrc, _⟩ := src_of_row hrow (winCells_one l)
      simp only [Value.slice.injEq, true_and] at hv'
      obtain ⟨rfl, rfl⟩ := hv'
      have hN := new_any (a + 5) ⟨by omega, by omega⟩ hsrc (fun h => (hol h).2) (fun x hx => by rw [hol2 x hx]) hcl hcm (fun x hx => by
        have := hla.each x hx
        exact ⟨⟨by omega, by omega⟩, ⟨by omega, by omega⟩, ⟨by omega, by omega⟩⟩)
      unfold NewPost at hN
      rw [hok.may] at hN
      simp only [if_true] at hN
      have HN := Lib.hid hN
      have HC := Lib.hid hch
      have HOK := Lib.hid hok
      clear hN hch hrow hsrc hol hol2 hla hok hcm
      go_wp2_with (fail)
      refine HN.out.mono ?_
      rintro e w2 ⟨b, sv, rfl, hh, hb, hsv, hc2⟩
      have HH := Lib.hid hh
      have HC2 := Lib.hid (HC.out.trans hc2 fun _ _ => id)
      have HB := Lib.hid (And.intro hb hsv)
      clear hh hc2 hb hsv
      unfold ptrV at *
      go_wp2
      go_ret3
      exact ⟨b, sv, ⟨a + 5, l⟩, rfl, HH.out, by show a + 5 ≤ 5005; omega, Nat.le_trans HC.out.size HB.out.1, fun g hg => Nat.le_trans HC.out.size (HB.out.2 g hg), HC2.out⟩
end Go.Proofs.Ytkeoaeeneenkaaa
