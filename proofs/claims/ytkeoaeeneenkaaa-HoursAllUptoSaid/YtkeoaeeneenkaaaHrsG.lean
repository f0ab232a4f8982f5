/- Hours: what All tells: an iterator over the windows that start between two ticks. No condition. -/
import Derived.Test.YtkeoaeeneenkaaaHrsF
import Derived.RangeFuncNested
import Derived.RangeFuncBound
import Derived.RangeFuncCalls
import Derived.RangeFuncLeaves
import Derived.Shelf.Abstract
import Derived.Shelf.RegionOpen
import Derived.WalkKit
import Derived.OwnWalkIn
import Derived.TacticsInMore
import Derived.LoopNIn
import Derived.LoopIn
namespace Go.Proofs.Ytkeoaeeneenkaaa
open Go.RowKit Go.Cl Go.Shelf
set_option linter.unusedVariables false
set_option linter.unusedSimpArgs false
attribute [local go_sem] lt_add_one' blk_alloc_past blk_alloc_at blk_drew blk_setCell_ne
attribute [local go_sem] Oper.semAt_some
attribute [local go_sem] win_f0 win_f1 win_f2

theorem all_ok (b : Nat) (f t : Int) (w : World) : Calls Try.prog 12 #[ptrV b, .int .u64 f, .int .u64 t] w fun e w' =>
    e = .returned (.func (.func 27) #[] #[ptrV (w.heap.size + 1), ptrV (w.heap.size + 1 + 1), ptrV w.heap.size]) ∧ w' = ((w.alloc (.cells #[ptrV b] 24 (0, 0))).alloc (.cells #[.int .u64 f] 23 (0, 0))).alloc (.cells #[.int .u64 t] 23 (0, 0)) := by
  unfold ptrV
  go_enter Try.func12, Try.ntmps12
  go_wp2
  go_ret
  exact ⟨rfl, rfl⟩

/-- The numbers of the windows that start from one tick on, up to ahead of another. -/
def Tab.list (T : Tab) (f t : Int) : List Int := if f < t ∧ f ≤ 9223372036854775807 then (List.range (T.beg (t - 1) - T.nxt f).toNat).map (fun i : Nat => T.nxt f + (i : Int)) else []

/-- What a round is handed. -/
def Tab.enc (T : Tab) (k : Int) : Array Value := #[.int .u64 k, .agg #[.int .i64 (T.win k).c, .int .u64 (T.sta k), .int .u64 (T.win k).n]]

/-- What a round must keep: the blocks K. -/
def KeepK (K : Nat → Prop) (A B : World) : Prop := Chg (fun i => ¬ K i) A B
theorem keepK_t {K : Nat → Prop} {A B C : World} (h : KeepK K A B) (k : KeepK K B C) : KeepK K A C := h.trans k fun _ _ h => h
theorem keepK_b {K : Nat → Prop} {w : World} (hK : ∀ i, K i → i < w.heap.size) (W : World) (l : Nat) (o o' : Obj) (hl : w.heap.size ≤ l) (h : W.heap[l]? = some o) (_ : o.isCells = false) (_ : o.isWalk = false) : KeepK K W (W.putObj l o') :=
  (Chg.of_grown (grownBy_putObj' W l o')).mono fun i _ e hk => by cases e; have := hK _ hk; omega

theorem grown_of_chg {w w' : World} (h : Chg (fun _ => False) w w') : w.grownBy w' none := ⟨h.os, h.tape, h.output, h.size, fun k hk _ => h.block k hk id⟩
theorem abides_chg {β : Type} {B : Nat} {J : β → World → Prop} (h : AbidesFrom B J) {s : β} {w w' : World} (hs : J s w) (hc : Chg (fun _ => False) w w') : J s w' := h s w w' none hs (grown_of_chg hc) (fun r e => by cases e)

/-- The blocks that the iterator reads. -/
def AllK (b : Nat) (sv : Value) (Bh Bf Bt : Nat) (i : Nat) : Prop := i = b ∨ sv.ownBlock = some i ∨ i = Bh ∨ i = Bf ∨ i = Bt

theorem HourIs.keep {b : Nat} {sv : Value} {T : Tab} {Bh Bf Bt : Nat} {A B : World} (h : HourIs A b sv T) (k : KeepK (AllK b sv Bh Bf Bt) A B) : HourIs B b sv T :=
  h.frame k (fun h => h (.inl rfl)) fun g hg h => h (.inr (.inl hg))

theorem Tab.list_len {T : Tab} {f t : Int} (h : f < t ∧ f ≤ 9223372036854775807) : (T.list f t).length = (T.beg (t - 1) - T.nxt f).toNat := by
  unfold Tab.list
  rw [if_pos h]
  simp
theorem Tab.list_at {T : Tab} {f t : Int} {i : Nat} (h : i < (T.list f t).length) : (T.list f t)[i]? = some (T.nxt f + i) := by
  unfold Tab.list at *
  split at h
  · rename_i q
    rw [if_pos q]
    simp only [List.length_map, List.length_range] at h
    rw [List.getElem?_map, List.getElem?_range h]
    rfl
  · simp at h
theorem Tab.list_take {T : Tab} {f t : Int} {i : Nat} (h : i < (T.list f t).length) : (T.list f t).take (i + 1) = (T.list f t).take i ++ [T.nxt f + i] := by
  rw [List.take_add_one, T.list_at h]
  rfl

/-- A number of a window. -/
abbrev U : Type := { k : Int // U64 k }
def toU (k : Int) : U := ⟨k % 18446744073709551616, Int.emod_nonneg _ (by omega), Int.emod_lt_of_pos _ (by omega)⟩
theorem toU_val {k : Int} (h : U64 k) : (toU k).1 = k := Int.emod_eq_of_lt h.1 h.2
def Tab.listU (T : Tab) (f t : Int) : List U := (T.list f t).map toU
theorem Tab.listU_len (T : Tab) (f t : Int) : (T.listU f t).length = (T.list f t).length := by simp [Tab.listU]
theorem Tab.listU_take {T : Tab} {f t : Int} {i : Nat} (h : i < (T.list f t).length) : (T.listU f t).take (i + 1) = (T.listU f t).take i ++ [toU (T.nxt f + i)] := by
  unfold Tab.listU
  rw [← List.map_take, T.list_take h, List.map_append, List.map_take]
  rfl

def AllPost (T : Tab) (f t : Int) (J Jx : List U → World → Prop) (e : Ending) (W' : World) : Prop := (∃ v, e = .returned v) ∧ ((∃ ys, ys = T.listU f t ∧ J ys W') ∨ (∃ pre, pre <+: T.listU f t ∧ Jx pre W'))

set_option maxRecDepth 100000 in
set_option maxHeartbeats 4000000 in
theorem all1_in (n : Nat) (hn : 4 ≤ n) (l b : Nat) (sv : Value) (T : Tab) (f t : Int) (hf : U64 f) (ht : U64 t) (Bh Bf Bt : Nat) (J Jx : List U → World → Prop) (B : Nat) (hJ : AbidesFrom B J)
    (hY : ∀ pre x W, J pre W → pre.length < (T.listU f t).length → YieldAt Fence.wide (n - 1) Try.prog l (T.enc x.1) W fun e W' =>
      (e = .returned (.bool true) ∧ J (pre ++ [x]) W' ∧ KeepK (AllK b sv Bh Bf Bt) W W') ∨ (e = .returned (.bool false) ∧ Jx (pre ++ [x]) W'))
    (W : World) (hT : HourIs W b sv T) (ch : W.cell? ⟨Bh, 0, none⟩ = some (ptrV b)) (cf : W.cell? ⟨Bf, 0, none⟩ = some (.int .u64 f)) (ct : W.cell? ⟨Bt, 0, none⟩ = some (.int .u64 t)) (h0 : J [] W) :
    CallsIn Fence.wide n Try.prog 27 #[.func (.yield l) #[] #[], ptrV Bf, ptrV Bt, ptrV Bh] W (AllPost T f t J Jx) := by
  have HT := Lib.hid hT
  have HY := Lib.hid hY
  have HJ := Lib.hid hJ
  have HC := Lib.hid (And.intro ch (And.intro cf ct))
  obtain ⟨f0, f1⟩ := hf
  obtain ⟨t0, t1⟩ := ht
  clear hT hY hJ
  have hro : Fence.wide.round = none := rfl
  refine callsIn_of_wp Try.func27 rfl trivial ?_ hro
  unfold ptrV at *
  simp only [Try.ntmps27, List.size_toArray, List.length_cons, List.length_nil, Nat.reduceAdd, Nat.reduceSub, Array.replicate_succ, Array.replicate_zero, List.push_toArray, List.append_toArray, List.nil_append, List.cons_append]
  by_cases q1 : f < t
  · by_cases q2 : f ≤ 9223372036854775807
    · have BG := Lib.hid (fun (wy : World) (hy : Chg (fun _ => False) W wy) (x : Int) hx => begun_ok (HT.out.frame0 hy) x hx)
      have hl0 : (T.listU f t).length = (T.beg (t - 1) - T.nxt f).toNat := (T.listU_len f t).trans (T.list_len ⟨q1, q2⟩)
      have HL0 := Lib.hid hl0
      have bb := HT.out.ok.beg_le (t := t - 1) (by omega)
      have e1 : T.beg 9223372036854775807 = T.beg (t - 1) ∨ t - 1 ≤ 9223372036854775807 := by
        by_cases q : t - 1 ≤ 9223372036854775807
        · exact .inr q
        · left
          have a : capT (t - 1) = capT 9223372036854775807 := by unfold capT; omega
          unfold Tab.beg
          rw [a]
      have E1 := Lib.hid e1
      have nn : 0 ≤ T.nxt f := by
        unfold Tab.nxt
        split
        · omega
        · exact (HT.out.ok.beg_le (by unfold capT; omega)).1
      have nn2 : T.nxt f ≤ 9223372036854775807 + 32 := by
        unfold Tab.nxt
        split
        · omega
        · exact (HT.out.ok.beg_le (by unfold capT; omega)).2.1
      obtain ⟨bb0, bb1, _⟩ := bb
      clear hl0 e1
      refine wpIn_wide.2 ?_
      go_upto_region 1 with (fail)
      go_cut [5] from 8 to 39 (fun s5 wq => s5 = .int .u64 (T.beg (t - 1)) ∧ Chg (fun _ => False) W wq)
      case first =>
        by_cases q3 : 9223372036854775807 < t - 1
        · have hb := E1.out.resolve_right (by omega)
          have G := Lib.hid (BG.out W (Chg.refl _ _) 9223372036854775807 ⟨by omega, by omega⟩)
          rw [hb] at G
          clear hb
          go_wp2_with (fail)
          refine G.out.mono ?_
          rintro e w2 ⟨rfl, hc⟩
          go_wp2
          go_meet
          case rel => exact ⟨rfl, hc⟩
        · have q4 : 0 ≤ t - 1 := by omega
          go_wp2_with (fail)
          refine (BG.out _ (Chg.refl _ _) _ ⟨by omega, by omega⟩).mono ?_
          rintro e w2 ⟨rfl, hc⟩
          go_wp2
          go_meet
          case rel => exact ⟨rfl, hc⟩
      case rest =>
        obtain ⟨rfl, hc⟩ := hcut
        have HC1 := Lib.hid hc
        have ch1 := cell_frame hc (fun _ _ => id) ch
        have cf1 := cell_frame hc (fun _ _ => id) cf
        have NX := Lib.hid (next_ok (HT.out.frame0 hc) f ⟨by omega, by omega⟩)
        obtain ⟨la, hla⟩ : ∃ la, la = T.beg (t - 1) := ⟨_, rfl⟩
        obtain ⟨fi, hfi⟩ : ∃ fi, fi = T.nxt f := ⟨_, rfl⟩
        rw [← hla] at bb0 bb1 HL0 ⊢
        rw [← hfi] at nn nn2 HL0 NX
        have HFI := Lib.hid hfi
        clear hc BG E1 hla hfi ch cf ct
        unfold ptrV at *
        go_wp2_with (fail)
        refine NX.out.mono ?_
        rintro e w2 ⟨rfl, hc⟩
        have HC2 := Lib.hid (HC1.out.trans hc fun _ _ => id)
        clear hc
        have HF := Lib.hid (show fi = T.nxt f from HFI.out)
        go_upto_block 0 with (fail)
        refine (wpIn_wide (n := n)).1 ?_
        gi_wp2_with (fail)
        gi_loopw [6] (fun s6 wr => ∃ i : Nat, s6 = .int .u64 (fi + i) ∧ i ≤ (T.listU f t).length ∧ J ((T.listU f t).take i) wr ∧ KeepK (AllK b sv Bh Bf Bt) W wr) (fun s6 _ => (la - intOf s6).toNat)
        case atStart => exact ⟨0, by simp, Nat.zero_le _, abides_chg HJ.out h0 HC2.out, HC2.out.mono fun _ _ h => h.elim⟩
        case round =>
          obtain ⟨i, rfl, hi, hJi, hk⟩ := hrel
          have HJI := Lib.hid hJi
          have HK := Lib.hid hk
          have hTr := HT.out.keep hk
          have cr := cell_keep hk HC.out.1 (fun h => h (.inr (.inr (.inl rfl))))
          have HTR := Lib.hid hTr
          clear hJi hk hTr ch1 cf1
          have hl := HL0.out
          by_cases q3 : fi + (i : Int) < la
          · have hil : i < (T.listU f t).length := by omega
            have HIL := Lib.hid hil
            have OF := Lib.hid (of_ok HTR.out (fi + i) ⟨by omega, by omega⟩)
            have ST := Lib.hid (fun (wy : World) (hy : Chg (fun _ => False) wr wy) => start_ok (HTR.out.frame0 hy) (fi + i) ⟨by omega, by omega⟩)
            have CR := Lib.hid cr
            clear hil hl
            unfold ptrV at *
            gi_wp2_with (fail)
            refine ⟨trivial, (fun _ => by omega), ?_⟩
            refine CallsIn.mono (callsIn_wide.2 OF.out) ?_
            rintro e w3 ⟨rfl, hc3⟩
            have HC3 := Lib.hid hc3
            have cr3 := cell_frame hc3 (fun _ _ => id) CR.out
            have lh3 : Bh < w3.heap.size := World.block_lt_of_cell? _ _ cr3
            clear hc3 cr
            gi_wp2_with (fail)
            refine ⟨trivial, (fun _ => by omega), ?_⟩
            refine CallsIn.mono (callsIn_wide.2 (ST.out _ (HC3.out.alloc _))) ?_
            rintro e w4 ⟨rfl, hc4⟩
            obtain ⟨x, hx⟩ : ∃ x, x = T.win (fi + i) := ⟨_, rfl⟩
            obtain ⟨s, hs⟩ : ∃ s, s = T.sta (fi + i) := ⟨_, rfl⟩
            rw [← hx] at hc4 ⊢
            rw [← hs]
            have b4 := hc4.blk' (blk_alloc_at w3 (.cells #[.int .i64 x.c, .int .u64 x.s, .int .u64 x.n] 36 (0, 0)) _ rfl) id
            have c40 := cell_of_blk b4 0
            have c41 := cell_of_blk b4 1
            have c42 := cell_of_blk b4 2
            have f41 := frozen_of_blk b4 1
            have l4 := blk_lt b4
            have HC4 := Lib.hid ((HC3.out.alloc (.cells #[.int .i64 x.c, .int .u64 x.s, .int .u64 x.n] 36 (0, 0))).trans hc4 fun _ _ => id)
            have HXS := Lib.hid (And.intro hx hs)
            clear hc4 b4 hx hs cr3
            have hc5 : Chg (fun _ => False) wr (w4.setCell ⟨w3.heap.size, 1, none⟩ (.int .u64 s)) := HC4.out.setCell (fun h => by have := HC3.out.size; dsimp only at h; omega) _
            have HC5 := Lib.hid hc5
            have hlt : ((T.listU f t).take i).length < (T.listU f t).length := by rw [List.length_take]; have := HIL.out; omega
            obtain ⟨fn, tmps, assign, body, hy, hR⟩ := HY.out ((T.listU f t).take i) (toU (fi + i)) _ (abides_chg HJ.out HJI.out hc5) hlt
            unfold Tab.enc at hy
            rw [toU_val (k := fi + i) ⟨by omega, by omega⟩] at hy
            rw [← HXS.out.1, ← HXS.out.2] at hy
            have HR := Lib.hid hR
            have htk := T.listU_take (T.listU_len f t ▸ HIL.out)
            rw [← HFI.out] at htk
            have HTK := Lib.hid htk
            clear hc5 hR hlt htk
            gi_wp2_with (fail)
            refine ⟨(fun _ => by omega), HR.out.mono ?_⟩
            rintro e w6 (⟨rfl, hJ6, hk6⟩ | ⟨rfl, hJx6⟩)
            · have HJ6 := Lib.hid hJ6
              have HK6 := Lib.hid (keepK_t (HK.out) (keepK_t (HC5.out.mono fun _ _ h => h.elim) hk6))
              clear hJ6 hk6
              gi_wp2
              go_roundw
              case rel => exact ⟨i + 1, by go_num, HIL.out, by rw [HTK.out]; exact HJ6.out, HK6.out⟩
              case measure => simp [intOf]; omega
            · have HJ6 := Lib.hid hJx6
              clear hJx6
              gi_wp2
              refine bodyPost_ret (results_none rfl _ _ _) rfl ?_
              exact ⟨⟨_, rfl⟩, .inr ⟨_, List.take_prefix _ _, by rw [HTK.out]; exact HJ6.out⟩⟩
          · have hil : i = (T.listU f t).length := by omega
            have HI := Lib.hid hil
            clear hl hil
            gi_wp2
            go_end0
            exact ⟨⟨_, rfl⟩, .inl ⟨_, rfl, by have := HJI.out; rw [HI.out, List.take_length] at this; exact this⟩⟩
    · have hl0 : T.listU f t = [] := by unfold Tab.listU Tab.list; rw [if_neg (by omega)]; rfl
      have HL := Lib.hid hl0
      have H0 := Lib.hid h0
      clear hl0 h0
      gi_wp2
      refine bodyPost_ret (results_none rfl _ _ _) rfl ?_
      exact ⟨⟨_, rfl⟩, .inl ⟨_, rfl, by rw [HL.out]; exact H0.out⟩⟩
  · have hl0 : T.listU f t = [] := by unfold Tab.listU Tab.list; rw [if_neg (by omega)]; rfl
    have HL := Lib.hid hl0
    have H0 := Lib.hid h0
    clear hl0 h0
    gi_wp2
    refine bodyPost_ret (results_none rfl _ _ _) rfl ?_
    exact ⟨⟨_, rfl⟩, .inl ⟨_, rfl, by rw [HL.out]; exact H0.out⟩⟩

/-- WHAT All HANDS BACK. -/
theorem all_stops (n : Nat) (hn : 4 ≤ n) (b : Nat) (sv : Value) (T : Tab) (f t : Int) (hf : U64 f) (ht : U64 t) (Bh Bf Bt : Nat) (w : World) (hT : HourIs w b sv T) (ch : w.cell? ⟨Bh, 0, none⟩ = some (ptrV b)) (cf : w.cell? ⟨Bf, 0, none⟩ = some (.int .u64 f)) (ct : w.cell? ⟨Bt, 0, none⟩ = some (.int .u64 t)) :
    SeqStopsK Fence.wide n Try.prog 27 #[ptrV Bf, ptrV Bt, ptrV Bh] (fun x : U => T.enc x.1) (KeepK (AllK b sv Bh Bf Bt)) (fun ys => ys = T.listU f t) (fun pre => pre <+: T.listU f t) (T.listU f t).length w := fun l J Jx W hW hJ _ hY h0 => by
  have hc : Chg (fun _ => False) w W := Chg.of_below hW _
  exact all1_in n hn l b sv T f t hf ht Bh Bf Bt J Jx _ hJ hY W (hT.frame0 hc) (cell_frame hc (fun _ _ => id) ch) (cell_frame hc (fun _ _ => id) cf) (cell_frame hc (fun _ _ => id) ct) h0
end Go.Proofs.Ytkeoaeeneenkaaa
