/- slices.Backward at slots, an iterator; contract of Load. No condition. -/
import Derived.Test.YtoglgkplddlemaaTlbN
namespace Go.Proofs.Ytoglgkplddlemaa
open Go.RowKit Go.Cl Go.Shelf Go.Sort
open Go.Maps (Keyed)
set_option linter.unusedVariables false
set_option linter.unusedSimpArgs false
attribute [local go_sem] lt_add_one' blk_alloc_past blk_alloc_at blk_drew blk_setCell_ne
attribute [local go_sem] Oper.semAt_some

theorem backward_ok (v : Value) (hv : ∃ oa n c, v = .slice oa n c) (w : World) : Calls Try.prog 34 #[v] w fun e w' =>
    e = .returned (.func (.func 45) #[] #[.pointer (some ⟨w.heap.size, 0, none⟩)]) ∧ w' = w.alloc (.cells #[v] 55 (0, 0)) := by
  obtain ⟨oa, n, c, rfl⟩ := hv
  go_enter Try.func34, Try.ntmps34
  go_wp2
  go_ret
  exact ⟨rfl, rfl⟩

/-- What a round is handed. -/
def encB (L : List En) (i : Fin L.length) : Array Value := #[.int .i64 (i.1 : Int), (.agg #[.int .i64 L[i.1].c, .int .u32 L[i.1].p, .int .u32 L[i.1].f, .int .u8 L[i.1].r])]
abbrev backL (n : Nat) : List (Fin n) := (List.finRange n).reverse
theorem backL_len (n : Nat) : (backL n).length = n := by simp
theorem backL_take {n k : Nat} (hk : k + 1 ≤ n) : (backL n).take (n - k) = (backL n).take (n - (k + 1)) ++ [⟨k, by omega⟩] := by
  have e : n - k = n - (k + 1) + 1 := by omega
  have h : (backL n)[n - (k + 1)]? = some ⟨k, by omega⟩ := by
    rw [List.getElem?_eq_getElem (by rw [backL_len]; omega)]
    refine congrArg some (Fin.ext ?_)
    simp [backL]
    omega
  rw [e, List.take_add_one, h]
  rfl
theorem map_finRange (L : List En) : (List.finRange L.length).map (fun i => L[i.1]) = L := by
  apply List.ext_getElem
  · simp
  · intro i h1 h2
    simp

def BackPost (n : Nat) (J Jx : List (Fin n) → World → Prop) (e : Ending) (W' : World) : Prop := (∃ v, e = .returned v) ∧ ((∃ ys, ys = backL n ∧ J ys W') ∨ (∃ pre, pre <+: backL n ∧ Jx pre W'))

set_option maxRecDepth 100000 in
set_option maxHeartbeats 4000000 in
theorem back1_in (n : Nat) (hn : 4 ≤ n) (l : Nat) (v : Value) (L : List En) (Bx : Nat) (T : World → Nat → Prop) (J Jx : List (Fin L.length) → World → Prop) (B : Nat) (hJ : AbidesFrom B J)
    (W : World) (hT : TOk W T)
    (hY : ∀ pre x W, J pre W → pre.length < L.length → YieldAt Fence.wide (n - 1) Try.prog l (encB L x) W fun e W' =>
      (e = .returned (.bool true) ∧ J (pre ++ [x]) W' ∧ KeepT T W W') ∨ (e = .returned (.bool false) ∧ Jx (pre ++ [x]) W'))
    (h : SlotsAt W v L) (hb : blk W Bx = some (.cells #[v] 55 (0, 0))) (hn1 : ¬ T W Bx) (hn2 : L ≠ [] → ∀ g, v.ownBlock = some g → ¬ T W g) (h0 : J [] W) :
    CallsIn Fence.wide n Try.prog 45 #[.func (.yield l) #[] #[], .pointer (some ⟨Bx, 0, none⟩)] W (BackPost L.length J Jx) := by
  obtain ⟨oa, c, rfl, h1, h2, h3⟩ := h
  unfold maxLen at h2
  have HT := Lib.hid hT
  have HY := Lib.hid hY
  have HJ := Lib.hid hJ
  have H3 := Lib.hid h3
  have HB := Lib.hid hb
  have HN := Lib.hid (And.intro hn1 hn2)
  have H0 := Lib.hid h0
  have z0 := cell_of_blk hb 0
  clear hT hY hJ h3 hb hn1 hn2 h0
  have hro : Fence.wide.round = none := rfl
  refine callsIn_of_wp Try.func45 rfl trivial ?_ hro
  simp only [Try.ntmps45, List.size_toArray, List.length_cons, List.length_nil, Nat.reduceAdd, Nat.reduceSub, Array.replicate_succ, Array.replicate_zero, List.push_toArray, List.append_toArray, List.nil_append, List.cons_append]
  gi_wp2_with (fail)
  gi_loopw [3] (fun s3 wr => ∃ k : Nat, s3 = .int .i64 ((k : Int) - 1) ∧ k ≤ L.length ∧ J ((backL L.length).take (L.length - k)) wr ∧ KeepT T W wr) (fun s3 _ => (intOf s3 + 1).toNat)
  case atStart => exact ⟨L.length, rfl, Nat.le_refl _, by rw [Nat.sub_self]; exact H0.out, HT.out.quiet (Nat.le_refl _) (Chg.refl _ _)⟩
  case round =>
    obtain ⟨k, rfl, hk, hJi, hkp⟩ := hrel
    have HJI := Lib.hid hJi
    have HK := Lib.hid hkp
    have hbr := hkp.cells HB.out HN.out.1
    have z1 := cell_of_blk hbr 0
    clear hJi hkp z0 hbr
    cases k with
    | zero =>
      gi_wp2
      go_end0
      exact ⟨⟨_, rfl⟩, .inl ⟨_, rfl, by have := HJI.out; rw [Nat.sub_zero] at this; rwa [List.take_of_length_le (by rw [backL_len]; exact Nat.le_refl _)] at this⟩⟩
    | succ k =>
      have hkl : k < L.length := by omega
      have hkl2 : (k : Int) < (L.length : Int) := by omega
      have e1 : ((k + 1 : Nat) : Int) - 1 = (k : Int) := by omega
      rw [e1]
      obtain ⟨e, he⟩ : ∃ e, L[k]? = some e := ⟨_, List.getElem?_eq_getElem hkl⟩
      have hle : L[k] = e := by
        have h9 := List.getElem?_eq_getElem hkl
        rw [h9] at he
        exact Option.some.inj he
      obtain ⟨bs, os, rfl, k0, k1, k2, k3⟩ := H3.out k _ he
      have kc : ∀ {j : Nat} {u : Value}, W.cell? ⟨bs, j, none⟩ = some u → wr.cell? ⟨bs, j, none⟩ = some u := fun {j u} hc => by
        have hnT := HN.out.2 (fun h => by rw [h] at hkl; simp at hkl) bs rfl
        simp only [World.cell?] at hc ⊢
        cases hh : W.heap[bs]? with
        | none => rw [hh] at hc; simp at hc
        | some o =>
          rw [hh] at hc
          cases o with
          | cells cc tt ff =>
            rw [HK.out.same bs _ hh (.inl rfl) hnT]
            exact hc
          | _ => simp at hc
      have k0 := kc k0
      have k1 := kc k1
      have k2 := kc k2
      have k3 := kc k3
      have hlt : ((backL L.length).take (L.length - (k + 1))).length < L.length := by rw [List.length_take, backL_len]; omega
      obtain ⟨fn, tmps, assign, body, hy, hR⟩ := HY.out _ ⟨k, hkl⟩ _ HJI.out hlt
      unfold encB at hy
      dsimp only at hy
      have HR := Lib.hid hR
      have HTK := Lib.hid (backL_take (n := L.length) (k := k) (by omega))
      have HKL := Lib.hid hkl
      rw [hle] at hy
      clear hR hlt kc he hle
      gi_wp2_with (fail)
      refine ⟨(fun _ => by omega), HR.out.mono ?_⟩
      rintro e w6 (⟨rfl, hJ6, hk6⟩ | ⟨rfl, hJx6⟩)
      · have HJ6 := Lib.hid hJ6
        have HK6 := Lib.hid (HK.out.trans hk6)
        clear hJ6 hk6
        gi_wp2
        go_roundw
        case rel => exact ⟨k, by go_num, by have := HKL.out; omega, by rw [HTK.out]; exact HJ6.out, HK6.out⟩
        case measure => first | omega | (simp [intOf]; omega) | simp [intOf]
      · have HJ6 := Lib.hid hJx6
        clear hJx6
        gi_wp2
        refine bodyPost_ret (results_none rfl _ _ _) rfl ?_
        exact ⟨⟨_, rfl⟩, .inr ⟨_, List.take_prefix (L.length - k) _, by rw [HTK.out]; exact HJ6.out⟩⟩

theorem back_stops (n : Nat) (hn : 4 ≤ n) {v : Value} {L : List En} {Bx : Nat} {T : World → Nat → Prop} {w : World} (hT : TOk w T) (h : SlotsAt w v L) (hb : blk w Bx = some (.cells #[v] 55 (0, 0))) (hn1 : ¬ T w Bx) (hn2 : L ≠ [] → ∀ g, v.ownBlock = some g → ¬ T w g) :
    SeqStopsK Fence.wide n Try.prog 45 #[.pointer (some ⟨Bx, 0, none⟩)] (encB L) (KeepT T) (fun ys => ys = backL L.length) (fun pre => pre <+: backL L.length) L.length w := fun l J Jx W hW hJ _ hY h0 => by
  have hc : Chg (fun _ => False) w W := Chg.of_below hW _
  exact back1_in n hn l v L Bx T J Jx _ hJ W (hT.later hc) hY (h.frame hc fun _ _ => id) (hc.blk' hb id) (fun ht => hn1 (hT.still (Nat.le_refl _) hc _ ht)) (fun hl g hg ht => hn2 hl g hg (hT.still (Nat.le_refl _) hc _ ht)) h0
end Go.Proofs.Ytoglgkplddlemaa
