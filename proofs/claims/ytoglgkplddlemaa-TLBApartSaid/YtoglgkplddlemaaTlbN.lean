/- Lists of slots, read; contract of the laws' sameSlots. No condition. -/
import Derived.Test.YtoglgkplddlemaaTlbM
namespace Go.Proofs.Ytoglgkplddlemaa
open Go.RowKit Go.Cl Go.Shelf Go.Sort
open Go.Maps (Keyed)
set_option linter.unusedVariables false
set_option linter.unusedSimpArgs false
attribute [local go_sem] lt_add_one' blk_alloc_past blk_alloc_at blk_drew blk_setCell_ne

/-- A slice of slots. -/
def SlotsAt (w : World) (v : Value) (L : List En) : Prop :=
  ∃ oa c, v = .slice oa L.length c ∧ L.length ≤ c ∧ c ≤ maxLen ∧ ∀ i e, L[i]? = some e → ∃ b o, oa = some ⟨b, o, none⟩ ∧ w.cell? ⟨b, o + i * 4, none⟩ = some (.int .i64 e.c) ∧ w.cell? ⟨b, o + i * 4 + 1, none⟩ = some (.int .u32 e.p) ∧ w.cell? ⟨b, o + i * 4 + 2, none⟩ = some (.int .u32 e.f) ∧ w.cell? ⟨b, o + i * 4 + 3, none⟩ = some (.int .u8 e.r)
theorem SlotsAt.frame {S : Nat → Prop} {w w' : World} {v : Value} {L : List En} (h : SlotsAt w v L) (hc : Chg S w w') (hs : ∀ g, v.ownBlock = some g → ¬ S g) : SlotsAt w' v L := by
  obtain ⟨oa, c, rfl, h1, h2, h3⟩ := h
  refine ⟨oa, c, rfl, h1, h2, fun i e he => ?_⟩
  obtain ⟨b, o, rfl, k0, k1, k2, k3⟩ := h3 i e he
  have hn := hs b rfl
  exact ⟨b, o, rfl, cell_keep hc k0 hn, cell_keep hc k1 hn, cell_keep hc k2 hn, cell_keep hc k3 hn⟩
theorem SlotsAt.row {w : World} {base : Nat} {v : Value} {n : Nat} {L : List En} (h : w.ownsRow base 58 4 v n (L.flatMap encS)) (hn : n = L.length) : SlotsAt w v L := by
  subst hn
  obtain ⟨oa, c, rfl, h1, h2, -⟩ := row_form h
  refine ⟨oa, c, rfl, h1, h2, fun i e he => ?_⟩
  have hlt := (List.getElem?_eq_some_iff.1 he).1
  obtain ⟨g, cap, cur, hv, -, -, -, -, -, hat⟩ := row_at h (by omega)
  simp at hv
  obtain ⟨rfl, rfl⟩ := hv
  obtain ⟨e0, e1, e2, e3⟩ := encS_at he
  refine ⟨g, 0, rfl, ?_, ?_, ?_, ?_⟩
  · rw [Nat.zero_add]; exact hat _ _ e0
  · rw [Nat.zero_add]; exact hat _ _ e1
  · rw [Nat.zero_add]; exact hat _ _ e2
  · rw [Nat.zero_add]; exact hat _ _ e3

/-- A slot without the time of its use. -/
theorem chg_drewN' {S : Nat → Prop} {a w : World} (h : Chg S a w) (n : Nat) : Chg S a (w.drewN n) := ⟨h.os, h.tape, h.output, h.size, h.block⟩
def tm (e : En) : Int × Int × Int × Int := (e.c, e.p, e.f, e.r)
theorem tm_eq {a b : En} : tm a = tm b ↔ a.c = b.c ∧ a.p = b.p ∧ a.f = b.f ∧ a.r = b.r := by simp [tm]

set_option maxHeartbeats 1000000 in
set_option maxRecDepth 100000 in
theorem sameSlots_ok {w : World} {v v' : Value} {L L' : List En} (h : SlotsAt w v L) (h' : SlotsAt w v' L') : Calls Try.prog 22 #[v, v'] w fun e w' => e = .returned (.bool (decide (L.map tm = L'.map tm))) ∧ Chg (fun _ => False) w w' := by
  obtain ⟨oa, c, rfl, h1, h2, h3⟩ := h
  obtain ⟨ob, c', rfl, h1', h2', h3'⟩ := h'
  unfold maxLen at h2 h2'
  obtain ⟨rs, hrs⟩ : ∃ rs, rs = decide (L.map tm = L'.map tm) := ⟨_, rfl⟩
  rw [← hrs]
  have HRS := Lib.hid hrs
  clear hrs
  by_cases hl : L.length = L'.length
  · have HA := Lib.hid h3
    have HB := Lib.hid h3'
    have HL := Lib.hid hl
    have e1 : ((L.length : Int) != (L'.length : Int)) = false := by rw [hl]; simp
    clear h3 h3'
    rw [← hl]
    rw [← hl] at e1 h1'
    clear hl
    go_enter Try.func22, Try.ntmps22
    go_wp2
    go_loopg [5] L.length (fun g s5 wr => ∃ i : Nat, i + g = L.length ∧ s5 = .int .i64 i ∧ (L.map tm).take i = (L'.map tm).take i ∧ Chg (fun _ => False) w wr)
    case atStart => exact ⟨0, by omega, rfl, rfl, Chg.refl _ _⟩
    case round =>
      obtain ⟨i, hig, rfl, heq, hc⟩ := hrel
      have HIG := Lib.hid hig
      have HEQ := Lib.hid heq
      have HC := Lib.hid hc
      clear heq hc
      cases gk with
      | zero =>
        have hil : ¬ ((i : Int) < (L.length : Int)) := by omega
        obtain rfl : rs = true := HRS.out.trans (decide_eq_true (by
          have := HEQ.out
          rw [List.take_of_length_le (by simp; omega), List.take_of_length_le (by simp; have := HL.out; omega)] at this
          exact this))
        clear hig
        go_wp2
        go_ret
        exact ⟨rfl, HC.out⟩
      | succ g =>
        have hil : i < L.length := by omega
        have hil2 : (i : Int) < (L.length : Int) := by omega
        obtain ⟨x, hx⟩ : ∃ x, L[i]? = some x := ⟨_, List.getElem?_eq_getElem hil⟩
        obtain ⟨y, hy⟩ : ∃ y, L'[i]? = some y := ⟨_, List.getElem?_eq_getElem (by rw [← HL.out]; exact hil)⟩
        obtain ⟨ba, oo, rfl, k0, k1, k2, k3⟩ := HA.out i x hx
        obtain ⟨bb, oo', rfl, q0, q1, q2, q3⟩ := HB.out i y hy
        have k0 := cell_frame HC.out (fun _ _ => id) k0
        have k1 := cell_frame HC.out (fun _ _ => id) k1
        have k2 := cell_frame HC.out (fun _ _ => id) k2
        have k3 := cell_frame HC.out (fun _ _ => id) k3
        have q0 := cell_frame HC.out (fun _ _ => id) q0
        have q1 := cell_frame HC.out (fun _ _ => id) q1
        have q2 := cell_frame HC.out (fun _ _ => id) q2
        have q3 := cell_frame HC.out (fun _ _ => id) q3
        have HX := Lib.hid hx
        have HY := Lib.hid hy
        clear hx hy hig
        by_cases hxy : tm x = tm y
        · have HE := Lib.hid hxy
          obtain ⟨xc, xp, xf, xr, xu⟩ := x
          obtain ⟨yc, yp, yf, yr, yu⟩ := y
          obtain ⟨rfl, rfl, rfl, rfl⟩ := tm_eq.1 hxy
          dsimp only at k0 k1 k2 k3 q0 q1 q2 q3
          clear hxy
          go_wp2
          go_quiet (fail)
          go_wp2
          go_roundg g
          case measure => omega
          case rel =>
            refine ⟨i + 1, by have := HIG.out; omega, by go_num, ?_, chg_drewN' HC.out _⟩
            rw [List.take_add_one, List.take_add_one, HEQ.out, List.getElem?_map, List.getElem?_map, HX.out, HY.out]
            simp [HE.out]
        · obtain rfl : rs = false := HRS.out.trans (decide_eq_false (fun h => hxy (by
            have h2 := congrArg (fun l => l[i]?) h
            simp only [List.getElem?_map, HX.out, HY.out, Option.map_some, Option.some.injEq] at h2
            exact h2)))
          have hd : ¬ x.c = y.c ∨ (x.c = y.c ∧ ¬ x.p = y.p) ∨ (x.c = y.c ∧ x.p = y.p ∧ ¬ x.f = y.f) ∨ (x.c = y.c ∧ x.p = y.p ∧ x.f = y.f ∧ ¬ x.r = y.r) := by
            have h := hxy
            rw [tm_eq] at h
            omega
          obtain ⟨xc, xp, xf, xr, xu⟩ := x
          obtain ⟨yc, yp, yf, yr, yu⟩ := y
          dsimp only at k0 k1 k2 k3 q0 q1 q2 q3 hd
          clear hxy
          rcases hd with d1 | ⟨rfl, d2⟩ | ⟨rfl, rfl, d3⟩ | ⟨rfl, rfl, rfl, d4⟩
          · go_wp2
            go_quiet (fail)
            go_wp2
            go_ret
            exact ⟨rfl, chg_drewN' HC.out _⟩
          · go_wp2
            go_quiet (fail)
            go_wp2
            go_ret
            exact ⟨rfl, chg_drewN' HC.out _⟩
          · go_wp2
            go_quiet (fail)
            go_wp2
            go_ret
            exact ⟨rfl, chg_drewN' HC.out _⟩
          · go_wp2
            go_quiet (fail)
            go_wp2
            go_ret
            exact ⟨rfl, chg_drewN' HC.out _⟩
  · have e1 : ((L.length : Int) != (L'.length : Int)) = true := by simp; omega
    obtain rfl : rs = false := HRS.out.trans (decide_eq_false (fun h => hl (by simpa using congrArg List.length h)))
    clear h3 h3' hl
    go_enter Try.func22, Try.ntmps22
    go_wp2
    go_ret
    exact ⟨rfl, Chg.refl _ _⟩
end Go.Proofs.Ytoglgkplddlemaa
