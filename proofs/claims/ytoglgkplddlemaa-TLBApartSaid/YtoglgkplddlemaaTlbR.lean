/- Contract of FlushCell, whatever an empty list's address. (TlbG's proof, its premise on the list less.) No condition. -/
import Derived.Test.YtoglgkplddlemaaTlbQ
namespace Go.Proofs.Ytoglgkplddlemaa
open Go.RowKit Go.Cl
open Go.Maps (Keyed)
open Go.ChangeMaps (setBlock)
set_option linter.unusedVariables false
set_option linter.unusedSimpArgs false
attribute [local go_sem] lt_add_one' blk_alloc_past blk_alloc_at blk_drew blk_setCell_ne blk_setBlock_ne blk_setBlock_eq cell_setBlock_ne frozen_setBlock_ne size_setBlock

set_option maxHeartbeats 1000000 in
theorem flushCell_any {b m : Nat} {sl now : Int} {L : List En} {oa : Option Addr} {cap : Nat} {xs : List Int} {w : World} (h : TlbIs w b m sl now L) (hx : IntsSl w oa cap xs) (hxb : xs ≠ [] → ∀ b' o, oa = some ⟨b', o, none⟩ → ¬ (b' = b ∨ b' = m)) (hsl : sl ≤ 1000) :
    Calls Try.prog 17 #[.pointer (some ⟨b, 0, none⟩), .slice oa xs.length cap] w fun e w' => e = .returned (.int .i64 (L.length - (L.filter fun e => !cellsIn xs e).length)) ∧ TlbIs w' b m sl now (L.filter fun e => !cellsIn xs e) ∧ Chg (fun i => i = b ∨ i = m) w w' := by
  obtain ⟨-, -, hlt0, hltm0, c0, c1, c2, f2⟩ := h.facts
  obtain ⟨_, _, _, _, _, _, _, _, _, _, _, _, _, _, _, _, _, _⟩ := lts hlt0
  obtain ⟨_, _, _, _, _, _, _, _, _, _, _, _, _, _, _, _, _, _⟩ := lts hltm0
  have hl := h.mp.run_len Try.underlying82 3
  rw [List.length_map] at hl
  obtain ⟨oi, hrng, hrafter⟩ := h.mp.range Try.underlying82
  have H := Lib.hid h
  have HR := Lib.hid hrafter
  clear h hrafter
  go_enter Try.func17, Try.ntmps17
  go_wp2
  obtain ⟨R, hR⟩ : ∃ R, R = w.heap.size := ⟨_, rfl⟩
  obtain ⟨W0, hW0⟩ : ∃ W0 : World, W0 = w.alloc oi := ⟨_, rfl⟩
  have kW : Chg (fun _ => False) w W0 := by rw [hW0]; repeat (first | exact Chg.refl _ _ | apply Chg.drew | (refine Chg.setCell ?_ (by simp) _) | (refine Chg.alloc ?_ _) | (refine Chg.setBlock ?_ (by simp) _))
  have k0 : RangeIs Try.prog 32 W0 m R (L.map En.pair) := HR.out _ _ (kW.blk hltm0 (by simp)) (by rw [hW0, hR]; simp (disch := (first | omega | (simp only [World.size_alloc, World.size_drew, World.size_setCell, size_setBlock] <;> omega) | fail)) only [blk_drew, blk_alloc_past, blk_alloc_at, blk_setCell_ne, blk_setCell_eq, blk_setBlock_ne, blk_setBlock_eq])
  have bmR : b < R ∧ m < R := by omega
  have lenb : (L.length : Int) ≤ 1000 := by have := H.out.few; omega
  have hX := fun wx : World => fun c : Chg (fun i => i = b ∨ i = m) w wx => (show IntsSl wx oa cap xs from by
    by_cases hxe : xs = []
    · exact ⟨hx.1, hx.2.1, fun i x hi => by rw [hxe] at hi; simp at hi⟩
    · exact intsSl_chg hx c (fun b' o h => hxb hxe b' o h))
  have HX := Lib.hid hX
  have I0 : FlushInv w b m R sl now L xs L W0 := by
    have hall : (L.filter fun e => decide (e ∈ L) || !cellsIn xs e) = L := List.filter_eq_self.2 fun e he => by simp [he]
    exact ⟨by rw [hall]; exact H.out.frame kW (by simp) (by simp), k0, kW.mono (fun _ _ h => h.elim), fun _ h => h, ord_nodup H.out.ord⟩
  have BR := Lib.hid bmR
  have RW := Lib.hid hR
  have I00 := Lib.hid I0
  rw [← hW0, ← hR]
  clear kW k0 bmR hX I0 hR hW0 hx hxb c0 c1 c2 f2 hl hrng
  go_loopg [] L.length (fun g wr => ∃ left : List En, left.length = g ∧ FlushInv w b m R sl now L xs left wr)
  case atStart => exact ⟨L, rfl, I00.out⟩
  case round =>
    obtain ⟨left, hgk, hI⟩ := hrel
    have Hgk := Lib.hid hgk
    have HI := Lib.hid hI
    have hrg := hI.rg
    clear hgk hI
    go_wp2_with (at_next; refine wpList_next_of wr (fun e : En => .agg #[.int .i64 e.c, .int .u32 e.p]) (fun e => .agg #[.int .u32 e.f, .int .u8 e.r, .int .u64 e.u]) rfl _ rfl 32 m R left rfl hrg ?_ ?_)
    · intro hl0
      have hT := HI.out.tlb
      rw [hl0] at hT
      have hfin : (L.filter fun e => decide (e ∈ ([] : List En)) || !cellsIn xs e) = L.filter fun e => !cellsIn xs e := List.filter_congr fun e _ => by simp
      rw [hfin] at hT
      obtain ⟨-, -, ha, hb, q0, q1, q2, qf⟩ := hT.facts
      have hl2 := hT.mp.run_len Try.underlying82 3
      rw [List.length_map] at hl2
      have hle := List.length_filter_le (fun e => !cellsIn xs e) L
      have HT := Lib.hid hT
      clear hT hfin hl0 hrg
      go_wp2
      go_ret
      exact ⟨rfl, HT.out, HI.out.chg⟩
    · intro e w1 hel hrg1 hc1 hz1 hent
      have hT := HI.out.tlb.frame hc1 (by have := BR.out; omega) (by have := BR.out; omega)
      have hX1 := HX.out w1 (HI.out.chg.step (S2 := fun i => i = R) hc1 (fun i _ h => h) (fun i hi h => by have := RW.out; omega))
      have HT := Lib.hid hT
      have RG1 := Lib.hid hrg1
      have C1 := Lib.hid hc1
      have HE := Lib.hid hel
      have CON := fun wx : World => fun c : Chg (fun _ => False) w1 wx => contains_any oa cap xs e.c wx (intsSl_chg hX1 c (by simp))
      have CN := Lib.hid CON
      have eL := HI.out.sub e hel
      obtain ⟨tk1, tk2, tk3, tk4⟩ := H.out.tags e eL
      clear hT hrg1 hc1 hel hz1 hrg hX1 CON eL
      go_wp2_with fail
      refine (CN.out _ (by repeat (first | exact Chg.refl _ _ | apply Chg.drew | (refine Chg.setCell ?_ (by simp) _) | (refine Chg.alloc ?_ _) | (refine Chg.setBlock ?_ (by simp) _)))).mono ?_
      rintro e' w2 ⟨rfl, rfl⟩
      by_cases hin : e.c ∈ xs
      · rw [decide_eq_true hin]
        have hci : cellsIn xs e = true := decide_eq_true hin
        have CI := Lib.hid hci
        clear hin hci
        obtain ⟨-, -, ha, hb, q0, q1, q2, qf⟩ := HT.out.facts
        obtain ⟨_, _, _, _, _, _, _, _, _, _, _, _, _, _, _, _, _, _⟩ := lts ha
        obtain ⟨_, _, _, _, _, _, _, _, _, _, _, _, _, _, _, _, _, _⟩ := lts hb
        obtain ⟨o, hup0, hafter⟩ := RG1.out.drop_hit tagKeyed Try.underlying82 HT.out.mp (isKey_tag ⟨tk1, tk2, tk3, tk4⟩) (G := (cut (L.filter fun x => decide (x ∈ left) || !cellsIn xs x) e.c e.p).map En.pair) (old := foundV e.f e.r e.u) (hit_perm HT.out (mem_left HE.out (HI.out.sub e HE.out))) (left_apart HT.out HE.out HI.out.nd (fun x hx => mem_left hx (HI.out.sub x hx))) 0
        have hup : ∀ w' : World, blk w' m = blk w1 m → (Builtin.delete_ #[82, 32] 0 #[.map (some m), .agg #[.int .i64 e.c, .int .u32 e.p]]).run Try.prog w' = .ok (.tuple #[]) (setBlock w' m o) := hup0
        have HA := Lib.hid hafter
        clear hafter hup0
        go_wp2
        go_region
        go_wp2
        go_roundg (left.erase e).length
        case measure =>
          have := Hgk.out
          rw [List.length_erase_of_mem HE.out]
          have := List.length_pos_of_mem HE.out
          omega
        case rel =>
          have bR := BR.out
          have hmr := RG1.out.lt
          obtain ⟨m1, m2⟩ := HA.out (setBlock (w1.alloc (.cells #[.int .i64 e.c, .int .u32 e.p] 32)).drew m o) (by simp (disch := (first | omega | (simp only [World.size_alloc, World.size_drew, World.size_setCell, size_setBlock] <;> omega) | fail)) only [blk_drew, blk_alloc_past, blk_alloc_at, blk_setCell_ne, blk_setCell_eq, blk_setBlock_ne, blk_setBlock_eq])
          refine ⟨left.erase e, rfl, ⟨?_, m2 (by simp (disch := (first | omega | (simp only [World.size_alloc, World.size_drew, World.size_setCell, size_setBlock] <;> omega) | fail)) only [blk_drew, blk_alloc_past, blk_alloc_at, blk_setCell_ne, blk_setCell_eq, blk_setBlock_ne, blk_setBlock_eq]), ?_, fun x hx => HI.out.sub x (List.mem_of_mem_erase hx), HI.out.nd.erase _⟩⟩
          · rw [← filter_go HT.out rfl HE.out HI.out.sub HI.out.nd CI.out]
            refine HT.out.sub _ ?_ m1
            have := H.out.ne
            simp (disch := (first | omega | (simp only [World.size_alloc, World.size_drew, World.size_setCell, size_setBlock] <;> omega) | fail)) only [blk_drew, blk_alloc_past, blk_alloc_at, blk_setCell_ne, blk_setCell_eq, blk_setBlock_ne, blk_setBlock_eq]
            exact HT.out.st
          · refine (HI.out.chg.step (S2 := fun i => i = R) C1.out (fun i _ h => h) (fun i hi h => by have := RW.out; omega)).step (S2 := fun i => i = m) ?_ (fun i _ h => h) (fun i _ h => .inr h)
            repeat (first | exact Chg.refl _ _ | apply Chg.drew | (refine Chg.setCell ?_ (by simp) _) | (refine Chg.alloc ?_ _) | (refine Chg.setBlock ?_ (by simp) _))
      · rw [decide_eq_false hin]
        have hci : cellsIn xs e = false := decide_eq_false hin
        have CI := Lib.hid hci
        clear hin hci
        go_wp2
        go_roundg (left.erase e).length
        case measure =>
          have := Hgk.out
          rw [List.length_erase_of_mem HE.out]
          have := List.length_pos_of_mem HE.out
          omega
        case rel =>
          have bR := BR.out
          refine ⟨left.erase e, rfl, ⟨?_, RG1.out.frame (S := fun _ => False) (by repeat (first | exact Chg.refl _ _ | apply Chg.drew | (refine Chg.setCell ?_ (by simp) _) | (refine Chg.alloc ?_ _) | (refine Chg.setBlock ?_ (by simp) _))) (by simp) (by simp), ?_, fun x hx => HI.out.sub x (List.mem_of_mem_erase hx), HI.out.nd.erase _⟩⟩
          · rw [filter_stay HE.out HI.out.sub HI.out.nd CI.out]
            exact HT.out.frame (S := fun _ => False) (by repeat (first | exact Chg.refl _ _ | apply Chg.drew | (refine Chg.setCell ?_ (by simp) _) | (refine Chg.alloc ?_ _) | (refine Chg.setBlock ?_ (by simp) _))) (by simp) (by simp)
          · refine (HI.out.chg.step (S2 := fun i => i = R) C1.out (fun i _ h => h) (fun i hi h => by have := RW.out; omega)).step (S2 := fun _ => False) ?_ (fun i _ h => h) (fun i _ h => h.elim)
            repeat (first | exact Chg.refl _ _ | apply Chg.drew | (refine Chg.setCell ?_ (by simp) _) | (refine Chg.alloc ?_ _) | (refine Chg.setBlock ?_ (by simp) _))
end Go.Proofs.Ytoglgkplddlemaa
