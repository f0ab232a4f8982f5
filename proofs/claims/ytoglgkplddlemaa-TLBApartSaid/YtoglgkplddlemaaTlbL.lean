/- What All tells: an iterator over the slots, the one used last first. No condition. -/
import Derived.Test.YtoglgkplddlemaaTlbK
import Derived.Test.YtoglgkplddlemaaLibSeqT
import Derived.RangeFuncNested
import Derived.RangeFuncBound
import Derived.RangeFuncCalls
import Derived.RangeFuncLeaves
import Derived.Shelf.Abstract
import Derived.Shelf.RegionOpen
import Derived.WalkKit
import Derived.OwnWalkIn
import Derived.TacticsInMore
import Derived.LoopNIn
import Derived.LoopIn
import Derived.Deep.RegionLawGrows
import Derived.Deep.RegionHeld3
namespace Go.Proofs.Ytoglgkplddlemaa
open Go.RowKit Go.Cl Go.Shelf Go.Sort
open Go.Maps (Keyed)
set_option linter.unusedVariables false
set_option linter.unusedSimpArgs false
attribute [local go_sem] lt_add_one' blk_alloc_past blk_alloc_at blk_drew blk_setCell_ne
attribute [local go_sem] Oper.semAt_some
attribute [local go_sem] found_f0 found_f1

def encS (e : En) : List Value := [.int .i64 e.c, .int .u32 e.p, .int .u32 e.f, .int .u8 e.r]
theorem encE_at {L : List En} {i : Nat} {e : En} (h : L[i]? = some e) : (L.flatMap encE)[i * 2]? = some (.int .i64 e.c) ∧ (L.flatMap encE)[i * 2 + 1]? = some (.int .u32 e.p) := by
  rw [flat_get (k := 2) (fun _ => rfl) (by omega), flat_get (k := 2) (fun _ => rfl) (by omega), show i * 2 / 2 = i by omega, show (i * 2 + 1) / 2 = i by omega, show i * 2 % 2 = 0 by omega, show (i * 2 + 1) % 2 = 1 by omega, h]
  exact ⟨rfl, rfl⟩
theorem encS_at {L : List En} {i : Nat} {e : En} (h : L[i]? = some e) : (L.flatMap encS)[i * 4]? = some (.int .i64 e.c) ∧ (L.flatMap encS)[i * 4 + 1]? = some (.int .u32 e.p) ∧ (L.flatMap encS)[i * 4 + 2]? = some (.int .u32 e.f) ∧ (L.flatMap encS)[i * 4 + 3]? = some (.int .u8 e.r) := by
  rw [flat_get (k := 4) (fun _ => rfl) (by omega), flat_get (k := 4) (fun _ => rfl) (by omega), flat_get (k := 4) (fun _ => rfl) (by omega), flat_get (k := 4) (fun _ => rfl) (by omega), show i * 4 / 4 = i by omega, show (i * 4 + 1) / 4 = i by omega, show (i * 4 + 2) / 4 = i by omega, show (i * 4 + 3) / 4 = i by omega, show i * 4 % 4 = 0 by omega, show (i * 4 + 1) % 4 = 1 by omega, show (i * 4 + 2) % 4 = 2 by omega, show (i * 4 + 3) % 4 = 3 by omega, h]
  exact ⟨rfl, rfl, rfl, rfl⟩
set_option maxRecDepth 100000 in
theorem info58 : (Try.prog.info? 58).map (fun i => (i.zero, i.size, i.bytes)) = some (some (.agg #[.int .i64 0, .int .u32 0, .int .u32 0, .int .u8 0]), 4, 24) := by kernel_rfl

theorem all_ok (b : Nat) (w : World) : Calls Try.prog 20 #[.pointer (some ⟨b, 0, none⟩)] w fun e w' =>
    e = .returned (.func (.func 32) #[] #[.pointer (some ⟨w.heap.size, 0, none⟩)]) ∧ w' = w.alloc (.cells #[.pointer (some ⟨b, 0, none⟩)] 25 (0, 0)) := by
  go_enter Try.func20, Try.ntmps20
  go_wp2
  go_ret
  exact ⟨rfl, rfl⟩

/-- What a round is handed. -/
def encX (e : En) : Array Value := #[.agg #[.int .i64 e.c, .int .u32 e.p], .agg #[.int .u32 e.f, .int .u8 e.r]]
abbrev Ent (L : List En) : Type := {e : En // e ∈ L}
def AllPost (L : List En) (J Jx : List (Ent L) → World → Prop) (e : Ending) (W' : World) : Prop := (∃ v, e = .returned v) ∧ ((∃ ys, ys = L.attach ∧ J ys W') ∨ (∃ pre, pre <+: L.attach ∧ Jx pre W'))

set_option maxRecDepth 100000 in
set_option maxHeartbeats 4000000 in
theorem all1_in (n : Nat) (hn : 4 ≤ n) (l b m : Nat) (sl now : Int) (L : List En) (hL : L.length ≤ 1000) (Bt : Nat) (T : World → Nat → Prop) (J Jx : List (Ent L) → World → Prop) (B : Nat) (hJ : AbidesFrom B J)
    (W : World) (hT : TOk W T)
    (hY : ∀ pre x W, J pre W → pre.length < L.length → YieldAt Fence.wide (n - 1) Try.prog l (encX x.1) W fun e W' =>
      (e = .returned (.bool true) ∧ J (pre ++ [x]) W' ∧ KeepT T W W') ∨ (e = .returned (.bool false) ∧ Jx (pre ++ [x]) W'))
    (h : TlbIs W b m sl now L) (hbt : blk W Bt = some (.cells #[.pointer (some ⟨b, 0, none⟩)] 25 (0, 0))) (h0 : J [] W) :
    CallsIn Fence.wide n Try.prog 32 #[.func (.yield l) #[] #[], .pointer (some ⟨Bt, 0, none⟩)] W (AllPost L J Jx) := by
  obtain ⟨i0, hi, hz0, hz1, hz2⟩ := info_parts info58
  have H := Lib.hid h
  have HT := Lib.hid hT
  have HY := Lib.hid hY
  have HJ := Lib.hid hJ
  have HBT := Lib.hid hbt
  have H0 := Lib.hid h0
  have HL := Lib.hid hL
  have z0 := cell_of_blk hbt 0
  have HO := Lib.hid (order_ok h hL)
  clear h hT hY hJ h0 hL hbt
  have hro : Fence.wide.round = none := rfl
  refine callsIn_of_wp Try.func32 rfl trivial ?_ hro
  simp only [Try.ntmps32, List.size_toArray, List.length_cons, List.length_nil, Nat.reduceAdd, Nat.reduceSub, Array.replicate_succ, Array.replicate_zero, List.push_toArray, List.append_toArray, List.nil_append, List.cons_append]
  refine wpIn_wide.2 ?_
  go_wp2_with (fail)
  refine HO.out.mono ?_
  rintro e w1 ⟨v0, rfl, hr0, hc1⟩
  obtain ⟨ov, cv, rfl, hv1, hv2, -⟩ := row_form hr0
  have HR0 := Lib.hid hr0
  have HC1 := Lib.hid hc1
  have HN := Lib.hid (World.ownsRow_nil w1 w1.heap.size 58 4)
  clear hr0 hc1 z0
  go_wp2
  go_loopg [3, 11] L.length (fun g s3 s11 wr => ∃ j : Nat, j + g = L.length ∧ s11 = .int .i64 j ∧ wr.ownsRow w1.heap.size 58 4 s3 j ((L.take j).flatMap encS) ∧ Chg (fun _ => False) w1 wr)
  case atStart => exact ⟨0, by omega, rfl, HN.out, Chg.refl _ _⟩
  case round =>
    obtain ⟨j, hjg, rfl, hrow, hch⟩ := hrel
    have HJG := Lib.hid hjg
    have HROW := Lib.hid hrow
    have HCH := Lib.hid hch
    obtain ⟨o3, c3, rfl, h31, h32, -⟩ := row_form hrow
    clear hrow hch
    cases gk with
    | zero =>
      obtain ⟨w2, rfl⟩ : ∃ w2, w2 = wr := ⟨_, rfl⟩
      have hjl : j = L.length := by omega
      subst hjl
      have hin : ¬ ((L.length : Int) < (L.length : Int)) := by omega
      have hrow := HROW.out
      rw [List.take_length] at hrow
      have HROW2 := Lib.hid hrow
      have hL' := HL.out
      have HC2 := Lib.hid (HC1.out.trans HCH.out fun _ _ => id)
      have HJ0 := Lib.hid (abides_chg' HJ.out H0.out HC2.out)
      clear hrow hjg
      go_upto_block 2 with (fail)
      refine (wpIn_wide (n := n)).1 ?_
      gi_wp2_with (fail)
      gi_loopw [30] (fun s30 wr => ∃ i : Nat, s30 = .int .i64 i ∧ i ≤ L.length ∧ J (L.attach.take i) wr ∧ KeepT T w2 wr) (fun s30 _ => (L.length - (intOf s30)).toNat)
      case atStart => exact ⟨0, rfl, Nat.zero_le _, HJ0.out, HT.out.quiet HC2.out.size (Chg.refl _ _)⟩
      case round =>
        obtain ⟨i, rfl, hi30, hJi, hk⟩ := hrel
        have HJI := Lib.hid hJi
        have HK := Lib.hid hk
        have HRX := Lib.hid (row_keepT hk HROW2.out fun g hg ht => by
          obtain ⟨hb, _⟩ := row_block HROW2.out hg
          have := HT.out.below HC2.out ht
          have := HC1.out.size
          omega)
        have HSX := Lib.hid (show W.heap.size ≤ wr.heap.size from Nat.le_trans HC2.out.size hk.size)
        clear hJi hk
        by_cases q : i < L.length
        · have q' : (i : Int) < (L.length : Int) := by omega
          have HQ := Lib.hid q
          obtain ⟨x, hx⟩ : ∃ x, L.attach[i]? = some x := ⟨_, List.getElem?_eq_getElem (by simpa using q)⟩
          have hxe := attach_at hx
          have HX := Lib.hid hx
          obtain ⟨gs, cs, cur, hvs, -, -, -, hbs, -, hat⟩ := row_at HRX.out (by omega)
          obtain ⟨rfl, rfl⟩ : o3 = some ⟨gs, 0, none⟩ ∧ c3 = cs := by simp at hvs; exact hvs
          have k0 := hat _ _ (encS_at hxe).1
          have k1 := hat _ _ (encS_at hxe).2.1
          have k2 := hat _ _ (encS_at hxe).2.2.1
          have k3 := hat _ _ (encS_at hxe).2.2.2
          have hc5 : Chg (fun _ => False) wr (wr.alloc (.cells #[.int .i64 x.1.c, .int .u32 x.1.p, .int .u32 x.1.f, .int .u8 x.1.r] 58 (0, 0))) := (Chg.refl _ _).alloc _
          have HC5 := Lib.hid hc5
          have hlt : (L.attach.take i).length < L.length := by rw [List.length_take, List.length_attach]; omega
          obtain ⟨fn, tmps, assign, body, hy, hR⟩ := HY.out (L.attach.take i) x _ (abides_chg' HJ.out HJI.out hc5) hlt
          unfold encX at hy
          have HR := Lib.hid hR
          have HTK := Lib.hid (show L.attach.take (i + 1) = L.attach.take i ++ [x] from by rw [List.take_add_one, HX.out]; rfl)
          clear hc5 hR hlt hvs hbs hat hx hxe
          gi_wp2_with (fail)
          refine ⟨(fun _ => by omega), HR.out.mono ?_⟩
          rintro e w6 (⟨rfl, hJ6, hk6⟩ | ⟨rfl, hJx6⟩)
          · have HJ6 := Lib.hid hJ6
            have HK6 := Lib.hid (HK.out.trans ((HT.out.quiet HSX.out HC5.out).trans hk6))
            clear hJ6 hk6
            gi_wp2
            go_roundw
            case rel => exact ⟨i + 1, by go_num, HQ.out, by rw [HTK.out]; exact HJ6.out, HK6.out⟩
            case measure => simp [intOf]; omega
          · have HJ6 := Lib.hid hJx6
            clear hJx6
            gi_wp2
            refine bodyPost_ret (results_none rfl _ _ _) rfl ?_
            exact ⟨⟨_, rfl⟩, .inr ⟨_, List.take_prefix _ _, by rw [HTK.out]; exact HJ6.out⟩⟩
        · have hil : i = L.length := by omega
          have HI := Lib.hid hil
          have q' : ¬ ((i : Int) < (L.length : Int)) := by omega
          clear hil
          gi_wp2
          go_end0
          exact ⟨⟨_, rfl⟩, .inl ⟨_, rfl, by have := HJI.out; rw [HI.out, ← List.length_attach, List.take_length] at this; exact this⟩⟩
    | succ g =>
      have hjl : j < L.length := by omega
      have hjl' : (j : Int) < (L.length : Int) := by omega
      have hL' := HL.out
      have hjg' := HJG.out
      obtain ⟨e, he⟩ : ∃ e, L[j]? = some e := ⟨_, List.getElem?_eq_getElem hjl⟩
      obtain ⟨gt, ct, cur, hvt, -, -, -, hbt0, -, hat⟩ := row_at HR0.out (by omega)
      obtain ⟨rfl, rfl⟩ : ov = some ⟨gt, 0, none⟩ ∧ cv = ct := by simp at hvt; exact hvt
      have HE := Lib.hid he
      have k0 := hat _ _ (encE_at he).1
      have k1 := hat _ _ (encE_at he).2
      have q0 := cell_frame HCH.out (fun _ _ => id) k0
      have q1 := cell_frame HCH.out (fun _ _ => id) k1
      have hT1 := (H.out.frame HC1.out id id).frame HCH.out id id
      have hbt1 := (HC1.out.trans HCH.out fun _ _ => id).blk' HBT.out id
      obtain ⟨-, -, hlt0, hltm0, c0, c1, c2, f2⟩ := hT1.facts
      obtain ⟨_, _, _, _, _, _, _, _, _, _, _, _, _, _, _, _, _, _⟩ := lts hlt0
      obtain ⟨_, _, _, _, _, _, _, _, _, _, _, _, _, _, _, _, _, _⟩ := lts hltm0
      have hltb := blk_lt hbt1
      obtain ⟨_, _, _, _, _, _, _, _, _, _, _, _, _, _, _, _, _, _⟩ := lts hltb
      have z0 := cell_of_blk hbt1 0
      have lk := hT1.get (List.mem_of_getElem? he)
      have hgt : gt < wr.heap.size := World.block_lt_of_cell? _ _ q0
      clear hvt hbt0 hat k0 k1 he hT1 hbt1 hjg
      go_upto_region 4 with (fail)
      obtain ⟨wk, hwk⟩ : ∃ wk, wk = wr.alloc (.cells #[.int .i64 e.c, .int .u32 e.p] 32 (0, 0)) := ⟨_, rfl⟩
      obtain ⟨KB, hKB⟩ : ∃ KB, KB = wr.heap.size := ⟨_, rfl⟩
      have hck : Chg (fun _ => False) wr wk := by rw [hwk]; exact (Chg.refl _ _).alloc _
      have hkb : blk wk KB = some (.cells #[.int .i64 e.c, .int .u32 e.p] 32 (0, 0)) := by rw [hwk, hKB]; exact blk_alloc_at _ _ _ rfl
      have y0 := cell_of_blk hkb 0
      have y1 := cell_of_blk hkb 1
      have z0' := cell_frame hck (fun _ _ => id) z0
      have c1' := cell_frame hck (fun _ _ => id) c1
      have lk' := fun (w' : World) (hw : blk w' m = blk wk m) => lk w' (hw.trans (hck.block m hltm0 id))
      have hlm : m < wk.heap.size := Nat.lt_of_lt_of_le hltm0 hck.size
      have hlb : b < wk.heap.size := Nat.lt_of_lt_of_le hlt0 hck.size
      have hlB : Bt < wk.heap.size := Nat.lt_of_lt_of_le hltb hck.size
      have hlK : KB < wk.heap.size := blk_lt hkb
      have HRK := Lib.hid (fun (wy : World) (hc : Chg (fun _ => False) wk wy) => row_frame (row_frame HROW.out hck fun _ _ => id) hc fun _ _ => id)
      have HCK := Lib.hid (HCH.out.trans hck fun _ _ => id)
      have HSK := Lib.hid (show w1.heap.size ≤ wk.heap.size from HCK.out.size)
      have RB := Lib.hid (fun (i : Nat) (h : some i = (Value.slice o3 j c3).ownBlock) => (show w1.heap.size ≤ i ∧ i < KB from by
        obtain ⟨hb, cur, hbc⟩ := row_block HROW.out h.symm
        exact ⟨hb, by rw [hKB]; exact blk_lt hbc⟩))
      have LB := Lib.hid (show Bt < w1.heap.size ∧ b < w1.heap.size ∧ m < w1.heap.size from by
        have h1 := blk_lt (HC1.out.blk' HBT.out id)
        obtain ⟨-, -, h2, h3, -⟩ := (H.out.frame HC1.out id id).facts
        exact ⟨h1, h2, h3⟩)
      have SS := Lib.hid (fun (S0 : Nat → Prop) (wq : World) (hq : Chg S0 wk wq) (h1 : ¬ S0 KB) (h2 : ¬ S0 Bt) (h3 : ¬ S0 b) (h4 : ¬ S0 m) => (show wq.cell? ⟨KB, 0, none⟩ = some (.int .i64 e.c) ∧ wq.cell? ⟨KB, 1, none⟩ = some (.int .u32 e.p) ∧ wq.cell? ⟨Bt, 0, none⟩ = some (.pointer (some ⟨b, 0, none⟩)) ∧ wq.cell? ⟨b, 1, none⟩ = some (.map (some m)) ∧ (Instr.lookup 82 (.map (some m)) (.agg #[.int .i64 e.c, .int .u32 e.p]) false).run Try.prog wq = .ok (.agg #[.int .u32 e.f, .int .u8 e.r, .int .u64 e.u]) wq from
        ⟨cell_keep hq y0 h1, cell_keep hq y1 h1, cell_keep hq z0' h2, cell_keep hq c1' h3, lk' wq (hq.block m hlm h4)⟩))
      have HJL := Lib.hid (And.intro hjl (And.intro hL' hjg'))
      rw [← hwk, ← hKB]
      clear lk' hwk hKB hck hkb z0 c0 c1 c2 f2 lk q0 q1 hgt hltb
      refine wp_region_noPanic ?_
      refine wp_region_held_drew (S := fun wq => wq.cell? ⟨KB, 0, none⟩ = some (.int .i64 e.c) ∧ wq.cell? ⟨KB, 1, none⟩ = some (.int .u32 e.p) ∧ wq.cell? ⟨Bt, 0, none⟩ = some (.pointer (some ⟨b, 0, none⟩)) ∧ wq.cell? ⟨b, 1, none⟩ = some (.map (some m)) ∧ (Instr.lookup 82 (.map (some m)) (.agg #[.int .i64 e.c, .int .u32 e.p]) false).run Try.prog wq = .ok (.agg #[.int .u32 e.f, .int .u8 e.r, .int .u64 e.u]) wq) (by kernel_rfl) (SS.out (fun _ => False) _ ((Chg.refl _ _).drew) id id id id) (fun hHeld => ?_)
      refine wpAnyH_take (i := 0) (v := ?v0) rfl (by kernel_rfl) (by kernel_rfl) (by kernel_rfl) (fun _ _ _ h => h) (Or.inl ⟨by kernel_rfl, ?hy0⟩) hHeld ?rest0
      case hy0 =>
        intro w hSw
        try dsimp only at hSw
        obtain ⟨hS0, hS1, hS2, hS3, hS4⟩ := hSw
        go_simp
        try with_reducible rfl
      simp only [List.getElem_toArray, List.getElem_cons_succ, List.getElem_cons_zero, Act.put, List.setIfInBounds_toArray, List.set_cons_zero, List.set_cons_succ]
      refine wpAnyH_take (i := 1) (v := ?v1) rfl (by kernel_rfl) (by kernel_rfl) (by kernel_rfl) (fun _ _ _ h => h) (Or.inl ⟨by kernel_rfl, ?hy1⟩) hHeld ?rest1
      case hy1 =>
        intro w hSw
        try dsimp only at hSw
        obtain ⟨hS0, hS1, hS2, hS3, hS4⟩ := hSw
        go_simp
        try with_reducible rfl
      simp only [List.getElem_toArray, List.getElem_cons_succ, List.getElem_cons_zero, Act.put, List.setIfInBounds_toArray, List.set_cons_zero, List.set_cons_succ]
      refine wpAnyH_take (i := 2) (v := ?v2) rfl (by kernel_rfl) (by kernel_rfl) (by kernel_rfl) (fun _ _ _ h => h) (Or.inl ⟨by kernel_rfl, ?hy2⟩) hHeld ?rest2
      case hy2 =>
        intro w hSw
        try dsimp only at hSw
        obtain ⟨hS0, hS1, hS2, hS3, hS4⟩ := hSw
        go_simp
        try with_reducible rfl
      simp only [List.getElem_toArray, List.getElem_cons_succ, List.getElem_cons_zero, Act.put, List.setIfInBounds_toArray, List.set_cons_zero, List.set_cons_succ]
      refine wpAnyH_take (i := 3) (v := ?v3) rfl (by kernel_rfl) (by kernel_rfl) (by kernel_rfl) (fun _ _ _ h => h) (Or.inl ⟨by kernel_rfl, ?hy3⟩) hHeld ?rest3
      case hy3 =>
        intro w hSw
        try dsimp only at hSw
        obtain ⟨hS0, hS1, hS2, hS3, hS4⟩ := hSw
        go_simp
        try with_reducible rfl
      simp only [List.getElem_toArray, List.getElem_cons_succ, List.getElem_cons_zero, Act.put, List.setIfInBounds_toArray, List.set_cons_zero, List.set_cons_succ]
      refine wpAnyH_take (i := 4) (v := ?v4) rfl (by kernel_rfl) (by kernel_rfl) (by kernel_rfl) (fun _ _ _ h => h) (Or.inl ⟨by kernel_rfl, ?hy4⟩) hHeld ?rest4
      case hy4 =>
        intro w hSw
        try dsimp only at hSw
        obtain ⟨hS0, hS1, hS2, hS3, hS4⟩ := hSw
        go_simp
        try with_reducible rfl
      simp only [List.getElem_toArray, List.getElem_cons_succ, List.getElem_cons_zero, Act.put, List.setIfInBounds_toArray, List.set_cons_zero, List.set_cons_succ]
      refine wpAnyH_take (i := 5) (v := ?v5) rfl (by kernel_rfl) (by kernel_rfl) (by kernel_rfl) (fun _ _ _ h => h) (Or.inl ⟨by kernel_rfl, ?hy5⟩) hHeld ?rest5
      case hy5 =>
        intro w hSw
        try dsimp only at hSw
        obtain ⟨hS0, hS1, hS2, hS3, hS4⟩ := hSw
        go_simp
        try with_reducible rfl
      simp only [List.getElem_toArray, List.getElem_cons_succ, List.getElem_cons_zero, Act.put, List.setIfInBounds_toArray, List.set_cons_zero, List.set_cons_succ]
      refine wpAnyH_take (i := 6) (v := ?v6) rfl (by kernel_rfl) (by kernel_rfl) (by kernel_rfl) (fun _ _ _ h => h) (Or.inl ⟨by kernel_rfl, ?hy6⟩) hHeld ?rest6
      case hy6 =>
        intro w hSw
        try dsimp only at hSw
        obtain ⟨hS0, hS1, hS2, hS3, hS4⟩ := hSw
        go_simp
        try with_reducible rfl
      simp only [List.getElem_toArray, List.getElem_cons_succ, List.getElem_cons_zero, Act.put, List.setIfInBounds_toArray, List.set_cons_zero, List.set_cons_succ]
      refine wpAnyH_take (i := 7) (v := ?v7) rfl (by kernel_rfl) (by kernel_rfl) (by kernel_rfl) (fun _ _ _ h => h) (Or.inl ⟨by kernel_rfl, ?hy7⟩) hHeld ?rest7
      case hy7 =>
        intro w hSw
        try dsimp only at hSw
        obtain ⟨hS0, hS1, hS2, hS3, hS4⟩ := hSw
        go_simp
        try with_reducible rfl
      simp only [List.getElem_toArray, List.getElem_cons_succ, List.getElem_cons_zero, Act.put, List.setIfInBounds_toArray, List.set_cons_zero, List.set_cons_succ]
      refine wpAnyH_take (i := 8) (v := ?v8) rfl (by kernel_rfl) (by kernel_rfl) (by kernel_rfl) (fun _ _ _ h => h) (Or.inl ⟨by kernel_rfl, ?hy8⟩) hHeld ?rest8
      case hy8 =>
        intro w hSw
        try dsimp only at hSw
        obtain ⟨hS0, hS1, hS2, hS3, hS4⟩ := hSw
        go_simp
        try with_reducible rfl
      simp only [List.getElem_toArray, List.getElem_cons_succ, List.getElem_cons_zero, Act.put, List.setIfInBounds_toArray, List.set_cons_zero, List.set_cons_succ]
      refine wpAnyH_take (i := 9) (v := ?v9) rfl (by kernel_rfl) (by kernel_rfl) (by kernel_rfl) (fun _ _ _ h => h) (Or.inl ⟨by kernel_rfl, ?hy9⟩) hHeld ?rest9
      case hy9 =>
        intro w hSw
        try dsimp only at hSw
        obtain ⟨hS0, hS1, hS2, hS3, hS4⟩ := hSw
        go_simp
        try with_reducible rfl
      simp only [List.getElem_toArray, List.getElem_cons_succ, List.getElem_cons_zero, Act.put, List.setIfInBounds_toArray, List.set_cons_zero, List.set_cons_succ]
      refine wpAnyH_ready (rs := [10]) (by kernel_rfl) (by simp) ?_
      refine AllReadyH.cons rfl (fun K hK => ?_) AllReadyH.nil
      go_simp
      refine hK.out _ _ (SS.out (fun _ => False) _ (((Chg.refl _ _).drew).alloc _) id id id id) (fun hHeld => ?_)
      clear hK K
      try simp only [List.getElem_toArray, List.getElem_cons_succ, List.getElem_cons_zero, Act.put, List.setIfInBounds_toArray, List.set_cons_zero, List.set_cons_succ]
      refine wpAnyH_ready (rs := [11]) (by kernel_rfl) (by simp) ?_
      refine AllReadyH.cons rfl (fun K hK => ?_) AllReadyH.nil
      refine step_app rfl _ _ _ (by rfl) w1.heap.size 58 i0 (.agg #[.int .i64 0, .int .u32 0, .int .u32 0, .int .u8 0]) 4 24 Try.underlying55 hi hz0 hz1 hz2 rfl (by decide) (.slice o3 j c3) j ((L.take j).flatMap encS) (by rfl) (HRK.out _ (((Chg.refl _ _).drew).alloc _)) _ 1 1 (encS e) (by rfl) (SrcIs.some (by rfl) (by simp [encS, Value.oneCell']) (by first | exact World.news_of_block (heap_alloc_new _ _) | exact World.news_of_block (w := World.drew _) (heap_alloc_new _ _))) (fun h => by cases h) (by have := HJL.out; unfold maxLen; omega) (by have := HJL.out; omega) (by have := HSK.out; simp; omega) ?_
      intro v2 w3 hown hgrow hlie
      have HOW := Lib.hid hown
      have HG3 := Lib.hid (show Chg (fun i => some i = (Value.slice o3 j c3).ownBlock) wk w3 from ((((Chg.refl (fun i => some i = (Value.slice o3 j c3).ownBlock) wk).drew).alloc _).trans (Chg.of_grown hgrow) fun _ _ h => h))
      clear hown hgrow hlie
      refine hK.out _ _ (SS.out _ _ HG3.out (fun h => Nat.lt_irrefl _ (RB.out _ h).2) (fun h => by have := (RB.out _ h).1; have := LB.out; omega) (fun h => by have := (RB.out _ h).1; have := LB.out; omega) (fun h => by have := (RB.out _ h).1; have := LB.out; omega)) (fun hHeld => ?_)
      clear hK K
      try simp only [List.getElem_toArray, List.getElem_cons_succ, List.getElem_cons_zero, Act.put, List.setIfInBounds_toArray, List.set_cons_zero, List.set_cons_succ]
      refine wpAnyH_ready (rs := [12]) (by kernel_rfl) (by simp) ?_
      refine AllReadyH.cons rfl (fun K hK => ?_) AllReadyH.nil
      go_simp
      refine hK.out _ _ (hHeld) (fun hHeld => ?_)
      clear hK K
      try simp only [List.getElem_toArray, List.getElem_cons_succ, List.getElem_cons_zero, Act.put, List.setIfInBounds_toArray, List.set_cons_zero, List.set_cons_succ]
      refine wpAnyH_done (by kernel_rfl) ?_ _
      refine NoPanic.normal ?_
      have HTK := Lib.hid (show L.take (j + 1) = L.take j ++ [e] from by rw [List.take_add_one, HE.out]; rfl)
      go_wp2
      go_roundg g
      case measure => omega
      case rel =>
        refine ⟨j + 1, by have := HJG.out; omega, by go_num, ?_, HCK.out.trans HG3.out fun i hi h => by have := (RB.out i h).1; omega⟩
        rw [HTK.out, List.flatMap_append]
        simpa using HOW.out

/-- WHAT All HANDS BACK. -/
theorem all_stops (n : Nat) (hn : 4 ≤ n) {b m : Nat} {sl now : Int} {L : List En} {Bt : Nat} {T : World → Nat → Prop} {w : World} (hT : TOk w T) (h : TlbIs w b m sl now L) (hL : L.length ≤ 1000) (hbt : blk w Bt = some (.cells #[.pointer (some ⟨b, 0, none⟩)] 25 (0, 0))) :
    SeqStopsK Fence.wide n Try.prog 32 #[.pointer (some ⟨Bt, 0, none⟩)] (fun x : Ent L => encX x.1) (KeepT T) (fun ys => ys = L.attach) (fun pre => pre <+: L.attach) L.length w := fun l J Jx W hW hJ _ hY h0 => by
  have hc : Chg (fun _ => False) w W := Chg.of_below hW _
  exact all1_in n hn l b m sl now L hL Bt T J Jx _ hJ W (hT.later hc) hY (h.frame hc id id) (hc.blk' hbt id) h0
end Go.Proofs.Ytoglgkplddlemaa
