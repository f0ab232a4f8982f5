/- MemoryLong: some thousand Stores, one behind the other. No condition. -/
import Derived.Test.YtenbkdmaiooldaaMemMany
namespace Go.Proofs.Ytenbkdmaiooldaa
open Go.RowKit Go.Cl
open Go.Maps (Keyed)
open Go.ChangeMaps (setBlock)
set_option linter.unusedVariables false
set_option linter.unusedSimpArgs false
attribute [local go_sem] lt_add_one' blk_alloc_past blk_alloc_at blk_drew blk_setCell_ne blk_setBlock_ne blk_setBlock_eq cell_setBlock_ne frozen_setBlock_ne size_setBlock

/-- Block K holds the words of f. -/
def Knows (w : World) (K : Nat) (f : Nat → Int) : Prop := ∀ i, i < 3072 → w.cell? ⟨K, i, none⟩ = some (.int .u32 (wordOf (fun j => f (4 * i + j)) 4)) ∧ w.frozen? ⟨K, i, none⟩ = false

theorem Knows.frame {S : Nat → Prop} {w w' : World} {K : Nat} {f : Nat → Int} (h : Knows w K f) (hc : Chg S w w') (hs : ¬ S K) : Knows w' K f := fun i hi => by
  have hk := hc.block K (World.block_lt_of_cell? _ _ (h i hi).1) hs
  exact ⟨(World.cell?_of_block (w := w) (a := ⟨K, i, none⟩) hk).trans (h i hi).1, (World.frozen?_of_block (w := w) (a := ⟨K, i, none⟩) hk).trans (h i hi).2⟩

theorem Knows.store {w : World} {K : Nat} {f : Nat → Int} (h : Knows w K f) {at_ : Nat} (hat : at_ < 3072) {V : Int} (hv : 0 ≤ V ∧ V < 4294967296) : Knows (w.setCell ⟨K, at_, none⟩ (.int .u32 V)) K (put f (4 * at_) 4 (byteOf V)) := fun i hi => by
  refine ⟨?_, ?_⟩
  · by_cases e : at_ = i
    · subst e
      rw [World.cell?_setCell_same w _ _ (h at_ hat).1, word_put, word_bytes hv]
    · rw [World.cell?_setCell_other w _ _ _ (fun h => e (Addr.mk.inj h).2.1), (h i hi).1]
      rw [wordOf_congr 4 fun j hj => (show f (4 * i + j) = put f (4 * at_) 4 (byteOf V) (4 * i + j) by unfold put; rw [if_neg (by omega)])]
  · rw [World.frozen?_setCell]
    exact (h i hi).2

set_option maxHeartbeats 1000000 in
set_option maxRecDepth 100000 in
theorem long_walk (a0 : Int) (w0 : (Lit.int .i64 a0).wf = true) (a1 : Int) (w1 : (Lit.int .i64 a1).wf = true) (a2 : Int) (w2 : (Lit.int .i64 a2).wf = true) (a3 : Int) (w3 : (Lit.int .u32 a3).wf = true) (w : World) :
    Calls Try.prog 3 #[.int .i64 a0, .int .i64 a1, .int .i64 a2, .int .u32 a3] w fun e w' => e = .returned (.bool true) ∧ Below w.heap.size w w' := by
  have h0 : I64 a0 := by simp [Lit.wf, IntKind.min, IntKind.max, IntKind.signed, IntKind.bits] at w0; unfold I64; omega
  have h1 : I64 a1 := by simp [Lit.wf, IntKind.min, IntKind.max, IntKind.signed, IntKind.bits] at w1; unfold I64; omega
  have h2 : I64 a2 := by simp [Lit.wf, IntKind.min, IntKind.max, IntKind.signed, IntKind.bits] at w2; unfold I64; omega
  have hv0 : 0 ≤ a3 := by simp [Lit.wf, IntKind.min, IntKind.max, IntKind.signed, IntKind.bits] at w3; omega
  have hv1 : a3 ≤ 4294967295 := by simp [Lit.wf, IntKind.min, IntKind.max, IntKind.signed, IntKind.bits] at w3; omega
  clear w0 w1 w2 w3
  have p0 := pick_any a0 3072 h0 (by omega) (by omega)
  have p1 := pick_any a1 3072 h1 (by omega) (by omega)
  have p2 := pick_any a2 6000 h2 (by omega) (by omega)
  have b0 := pickI_bd a0 3072 (by omega)
  have b1 := pickI_bd a1 3072 (by omega)
  have b2 := pickI_bd a2 6000 (by omega)
  obtain ⟨A, hA⟩ : ∃ n : Nat, pickI a0 3072 = n := ⟨(pickI a0 3072).toNat, by omega⟩
  obtain ⟨D, hD⟩ : ∃ n : Nat, pickI a1 3072 = n := ⟨(pickI a1 3072).toNat, by omega⟩
  obtain ⟨N, hN⟩ : ∃ n : Nat, pickI a2 6000 = n := ⟨(pickI a2 6000).toNat, by omega⟩
  rw [hA] at p0 b0
  rw [hD] at p1 b1
  rw [hN] at p2 b2
  obtain ⟨-, b0⟩ := b0
  obtain ⟨-, b1⟩ := b1
  obtain ⟨-, b2⟩ := b2
  have P0 := Lib.hid p0
  have P1 := Lib.hid p1
  have P2 := Lib.hid p2
  clear hA hD hN p0 p1 p2
  go_enter Try.func3, Try.ntmps3
  go_wp2_with fail
  refine (works_ok _).mono ?_
  rintro e wa ⟨rfl, ga⟩
  have GA := Lib.hid ga
  clear ga
  go_wp2_with fail
  refine (new_ok 3 (by omega) (by omega) _).mono ?_
  rintro e wn ⟨b, m, rfl, hM, hb, hm, g1⟩
  have BB := Lib.hid (And.intro hb hm)
  have HM := Lib.hid hM
  have G1 := Lib.hid (GA.out.trans g1 fun _ _ => id)
  clear hb hm hM g1
  unfold ptrV
  go_wp2_with fail
  have hK : Knows (wn.alloc (.cells Try.zeroCells28 28 (0, 0))) wn.heap.size (fun _ => 0) := by
    intro i hi
    have hb : blk (wn.alloc (.cells Try.zeroCells28 28 (0, 0))) wn.heap.size = some (.cells Try.zeroCells28 28 (0, 0)) := blk_alloc_at _ _ _ rfl
    refine ⟨?_, frozen_of_blk hb i⟩
    rw [cell_of_blk hb, show Try.zeroCells28 = Array.replicate 3072 (.int .u32 0) by kernel_rfl]
    rw [Array.getElem?_replicate, if_pos hi]
    rfl
  obtain ⟨wk, hwk⟩ : ∃ wk, wk = wn.alloc (.cells Try.zeroCells28 28 (0, 0)) := ⟨_, rfl⟩
  obtain ⟨K, hKn⟩ : ∃ K, K = wn.heap.size := ⟨_, rfl⟩
  have hc : Chg (fun _ => False) wn wk := by rw [hwk]; exact (Chg.refl _ _).alloc _
  have hMk := HM.out.frame hc fun _ _ => id
  have hbK := HM.out.lt
  have hbK : ∀ i, Foot b m [] i → i ≠ K := fun i hi e => by have := hbK i hi; omega
  rw [← hwk, ← hKn] at hK
  rw [← hwk, ← hKn]
  have hKw : w.heap.size ≤ K := by rw [hKn]; exact G1.out.size
  have Gk := Lib.hid (G1.out.trans (S := fun _ => False) hc fun _ _ => id)
  have HMk := Lib.hid hMk
  have HK := Lib.hid hK
  have HKF := Lib.hid hbK
  clear hwk hKn hc hMk hK hbK
  refine (P0.out _).mono ?_
  rintro e wx ⟨rfl, rfl⟩
  go_wp2_with fail
  refine (P2.out _).mono ?_
  rintro e wy ⟨rfl, rfl⟩
  go_wp2
  go_loopg [13, 15] N (fun g s13 s15 wr => ∃ (k at_ : Nat) (pg : List (Nat × Nat)) (f : Nat → Int), k + g = N ∧ at_ < 3072 ∧ s13 = .int .i64 at_ ∧ s15 = .int .i64 k ∧ MemIs wr b m pg 3 f ∧ (∀ i, Foot b m pg i → i ≠ K ∧ w.heap.size ≤ i) ∧ Knows wr K f ∧ Below w.heap.size w wr)
  case atStart => exact ⟨0, A, [], _, by omega, by omega, rfl, rfl, HMk.out, fun i hi => ⟨HKF.out i hi, by
    have := BB.out
    rcases hi with rfl | rfl | h
    · exact Nat.le_trans GA.out.size this.1
    · exact Nat.le_trans GA.out.size this.2
    · simp at h⟩, HK.out, Gk.out.below (Nat.le_refl _) (by simp)⟩
  case round =>
    obtain ⟨k, at_, pg, f, hkg, hat, rfl, rfl, hM, hF, hK, hB⟩ := hrel
    have KG := Lib.hid hkg
    have HMr := Lib.hid hM
    have HF := Lib.hid hF
    have HKr := Lib.hid hK
    have HB := Lib.hid hB
    clear hM hF hK hB
    cases gk with
    | zero =>
      have hkn : ¬ ((k : Int) < (N : Int)) := by omega
      clear hkg
      go_wp2
      go_loopg [18] 3072 (fun g s18 wx => ∃ i : Nat, i + g = 3072 ∧ s18 = .int .i64 i ∧ Chg (fun _ => False) wr wx)
      case atStart => exact ⟨0, by omega, rfl, Chg.refl _ _⟩
      case round =>
        obtain ⟨i, hig, rfl, hC⟩ := hrel
        have HC := Lib.hid hC
        have IG := Lib.hid hig
        clear hC
        cases gk with
        | zero =>
          have hin : ¬ ((i : Int) < 3072) := by omega
          clear hig
          go_wp2
          go_ret
          exact ⟨rfl, HB.out.trans (HC.out.below HB.out.size (by simp))⟩
        | succ g =>
          have hin : (i : Int) < 3072 := by omega
          have hin' : i < 3072 := by omega
          clear hig
          have hL := load_ok (HMr.out.frame HC.out fun _ _ => id) (a := 4 * i) (n := 4) (by omega) (by
            unfold wordE placeE
            rw [if_neg (by omega), if_neg (by omega), if_neg (by omega), if_neg (by omega)])
          rw [show ((4 * i : Nat) : Int) = 4 * (i : Int) by omega] at hL
          have HL := Lib.hid hL
          clear hL
          go_wp2_with fail
          refine HL.out.mono ?_
          rintro e w2 ⟨rfl, g2⟩
          have c2 := HC.out.trans g2 fun _ _ => id
          obtain ⟨y1, -⟩ := HKr.out.frame c2 id i hin'
          have C2 := Lib.hid c2
          clear c2 g2
          go_wp2
          go_roundg g
          case measure => omega
          case rel => exact ⟨i + 1, by have := IG.out; omega, by go_num, C2.out⟩
    | succ g =>
      have hkn : ((k : Int) < (N : Int)) := by omega
      clear hkg
      go_wp2_with fail
      have hS := store_ok HMr.out (a := 4 * at_) (n := 4) (v := IntKind.u32.wrap (a3 + k)) (by rw [IntKind.wrap_u32]; omega) (by omega) (by
        unfold wordE placeE
        rw [if_neg (by omega), if_neg (by omega), if_neg (by omega), if_neg (by omega)])
      rw [show ((4 * at_ : Nat) : Int) = 4 * (at_ : Int) by omega] at hS
      refine hS.mono ?_
      rintro e wq ⟨rfl, pg2, h2, g2, f2⟩
      have hK2 := HKr.out.frame g2 (fun h => (HF.out _ h).1 rfl)
      obtain ⟨y1, y2⟩ := hK2 at_ hat
      have H2 := Lib.hid h2
      have G2 := Lib.hid g2
      have F2 := Lib.hid f2
      have K2 := Lib.hid hK2
      clear h2 g2 f2 hK2 hS
      have hat' : (at_ : Int) < 3072 := by omega
      go_wp2_with fail
      have hK3 := K2.out.store hat (V := (a3 + k) % 4294967296) (by omega)
      have eV : IntKind.u32.wrap (a3 + k) = (a3 + k) % 4294967296 := by rw [IntKind.wrap_u32]
      have h2 := H2.out
      rw [eV] at h2
      have hKF : ¬ Foot b m pg2 K := fun h => by
        rcases F2.out _ h with h | h
        · exact (HF.out _ h).1 rfl
        · have : K < wr.heap.size := World.block_lt_of_cell? _ _ (HKr.out at_ hat).1
          omega
      obtain ⟨ws, hws⟩ : ∃ ws, ws = wq.setCell ⟨K, at_, none⟩ (.int .u32 ((a3 + k) % 4294967296)) := ⟨_, rfl⟩
      have cs : Chg (fun i => i = K) wq ws := by rw [hws]; exact (Chg.refl _ _).setCell (by simp) _
      rw [← hws] at hK3
      rw [← hws]
      have h3 := h2.frame cs fun i hi e => hKF (e ▸ hi)
      have hL := load_ok h3 (a := 4 * at_) (n := 4) (by omega) (by
        unfold wordE placeE
        rw [if_neg (by omega), if_neg (by omega), if_neg (by omega), if_neg (by omega)])
      rw [show ((4 * at_ : Nat) : Int) = 4 * (at_ : Int) by omega, word_put, word_bytes (by omega)] at hL
      have H3 := Lib.hid h3
      have K3 := Lib.hid hK3
      have CS := Lib.hid cs
      have NKF := Lib.hid hKF
      clear hws cs h2 h3 hK3 eV hKF
      refine hL.mono ?_
      rintro e w4 ⟨rfl, g4⟩
      have h4 := K3.out.frame g4 id
      obtain ⟨z1, -⟩ := h4 at_ hat
      rw [word_put, word_bytes (by omega)] at z1
      have K4 := Lib.hid h4
      have G4 := Lib.hid g4
      clear h4 g4 hL y1 y2
      have hw1 : ((at_ : Int) + 1 + D).tmod 3072 = ((at_ : Int) + 1 + D) % 3072 := Int.tmod_eq_emod_of_nonneg (by omega)
      go_wp2_with fail
      refine (P1.out _).mono ?_
      rintro e w5 ⟨rfl, rfl⟩
      go_wp2
      go_roundg g
      case measure => omega
      case rel =>
        refine ⟨k + 1, (at_ + 1 + D) % 3072, pg2, _, by have := KG.out; omega, Nat.mod_lt _ (by omega), by go_num, by go_num, H3.out.frame G4.out fun _ _ => id, fun i hi => ⟨fun e => NKF.out (e ▸ hi), ?_⟩, K4.out, HB.out.trans ((G2.out.below HB.out.size fun i hi h => ?_).trans ((CS.out.below ?_ fun i hi h => ?_).trans (G4.out.below ?_ (by simp))))⟩
        · rcases F2.out i hi with h | h
          · exact (HF.out i h).2
          · exact Nat.le_trans HB.out.size h
        · have := (HF.out i h).2
          omega
        · exact Nat.le_trans HB.out.size G2.out.size
        · omega
        · exact Nat.le_trans (Nat.le_trans HB.out.size G2.out.size) CS.out.size
end Go.Proofs.Ytenbkdmaiooldaa
