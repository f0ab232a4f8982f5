/- The law's world: contract of same. No condition. -/
import Derived.Test.YtenbkdmaiooldaaArnL
import Derived.Test.YtenbkdmaiooldaaLibBytes
namespace Go.Proofs.Ytenbkdmaiooldaa
open Go.RowKit Go.Cl
set_option linter.unusedVariables false
set_option linter.unusedSimpArgs false
attribute [local go_sem] lt_add_one' blk_alloc_past blk_alloc_at blk_drew blk_setCell_ne

def bts (h : Nat → Int) (n : Nat) : List Int := (List.range n).map h
theorem rowCells_bts (h : Nat → Int) (n : Nat) : rowCells h n = (bts h n).map (Value.int .u8) := by simp [rowCells, bts]
theorem length_bts (h : Nat → Int) (n : Nat) : (bts h n).length = n := by simp [bts]

theorem conv_row {w : World} {base n c : Nat} {oa : Option Addr} {h : Nat → Int} (hr : w.ownsRow base 5 1 (.slice oa n c) n (rowCells h n)) : (convert 58 9 (.slice oa n c)).run Try.prog w = .ok (.string (strOfNums (bts h n))) w := by
  obtain ⟨oa', c', hv, hs, -⟩ := src_of_row hr (by
    rw [rowCells_bts]
    intro u hu
    obtain ⟨j, _, rfl⟩ := List.mem_map.1 hu
    rfl)
  cases hv
  rw [rowCells_bts] at hs
  have := conv_src (P := Try.prog) (w := w) Try.underlying58 Try.underlying5 Try.underlying9 (xs := bts h n) (by rw [length_bts]; exact hs) c
  rwa [length_bts] at this
theorem conv_blk {w : World} {g n : Nat} {h : Nat → Int} (hb : blk w g = some (.cells (rowCells h n).toArray 5 (0, 0))) : (convert 58 9 (.slice (some ⟨g, 0, none⟩) n n)).run Try.prog w = .ok (.string (strOfNums (bts h n))) w := by
  have hs : SrcIs w 1 (some ⟨g, 0, none⟩) n ((bts h n).map (Value.int .u8)) := SrcIs.some (by simp [length_bts]) (fun u hu => by
    obtain ⟨j, _, rfl⟩ := List.mem_map.1 hu
    rfl) fun j u hu => by
    have h1 := cell_of_blk hb j
    rw [rowCells_bts, List.getElem?_toArray, hu] at h1
    rw [addr_add, Nat.zero_add]
    exact h1
  have := conv_src (P := Try.prog) (w := w) Try.underlying58 Try.underlying5 Try.underlying9 (xs := bts h n) (by rw [length_bts]; exact hs) n
  rwa [length_bts] at this

set_option maxHeartbeats 2000000 in
set_option maxRecDepth 100000 in
theorem StG.same {P Q : List Thing → Prop} {bs : Nat} {w : World} {X b n mp : Nat} {p q : Option (Nat × Nat)} {L : List Thing} (h : StG P Q bs w X b n mp p q L) : Calls Try.prog 29 #[.pointer (some ⟨X, 0, none⟩)] w fun e w' => e = .returned (.bool true) ∧ Chg (fun _ => False) w w' := by
  have hx := h.x
  obtain ⟨m, pg, R, qs, f, Lp, Lq, h1, h2, h3, h4, h5, h6⟩ := h
  have hm : MemIs w b m pg mp f := h6.all (memT b m pg mp f) (by simp)
  have hr : RefIs w bs n R qs f := h6.all (refT bs n R qs f) (by simp)
  have n0 := cell_of_blk hr.st 0
  have x1 := cell_of_blk hx 1
  have HX := Lib.hid hx
  have HM := Lib.hid hm
  have HR := Lib.hid hr
  have HL := Lib.hid h3
  have HMP := Lib.hid (And.intro h4 h5)
  rw [h3] at n0
  clear h1 h2 h3 h4 h5 h6 hx hm hr
  go_enter Try.func29, Try.ntmps29
  go_wp2
  go_loopg [4] mp (fun g s4 wr => ∃ i : Nat, i + g = mp ∧ s4 = .int .i64 i ∧ Chg (fun _ => False) w wr)
  case atStart => exact ⟨0, by omega, rfl, Chg.refl _ _⟩
  case round =>
    obtain ⟨i, hig, rfl, hc⟩ := hrel
    have HIG := Lib.hid hig
    have HC := Lib.hid hc
    clear hc x1 n0
    cases gk with
    | zero =>
      have hin : ¬ ((i : Int) < mp) := by omega
      clear hig
      go_wp2
      go_ret
      exact ⟨rfl, HC.out⟩
    | succ g =>
      have hin : (i : Int) < mp := by omega
      have hin2 : (i : Int) < 4096 := by have := HMP.out; omega
      have hx2 := HC.out.blk' HX.out id
      have x0 := cell_of_blk hx2 0
      unfold ptrV at x0
      have hR := readM_ok (HM.out.frame HC.out fun _ _ => id) (a := i * 4096) (n := 4096) (by omega)
      unfold ptrV at hR
      rw [show ((i * 4096 : Nat) : Int) = (i : Int) * 4096 by omega] at hR
      have HRD := Lib.hid hR
      clear hR hx2 hig
      go_wp2_with fail
      refine HRD.out.mono ?_
      rintro e w1 ⟨g1, rfl, -, k2, k3⟩
      have G1 := Lib.hid k2
      have C1 := Lib.hid (HC.out.trans k3 fun _ _ => id)
      have hx2 := C1.out.blk' HX.out id
      have x1 := cell_of_blk hx2 1
      have hR := rRead_ok (HR.out.frame C1.out fun _ _ => id) (a := i * 4096) (n := 4096) (by rw [HL.out]; have := HIG.out; omega)
      rw [show ((i * 4096 : Nat) : Int) = (i : Int) * 4096 by omega] at hR
      have HRR := Lib.hid hR
      clear k2 k3 hx2 hR x0 HRD
      go_wp2_with fail
      refine HRR.out.mono ?_
      rintro e w2 ⟨v, rfl, k2, k3⟩
      obtain ⟨o2, c2, rfl, -⟩ := row_form k2
      have cy := conv_row k2
      have cx := conv_blk (k3.blk' G1.out id)
      have C2 := Lib.hid (C1.out.trans k3 fun _ _ => id)
      generalize strOfNums (bts (fun j => f (i * 4096 + j)) 4096) = S at cx cy
      have s1 : (S.toList == S.toList) = true := by simp
      have s2 : (S.toList != S.toList) = false := by simp
      clear k2 k3 x1 HRR
      go_wp2_with fail
      refine (num_ok _ 0).mono ?_
      rintro e w3 ⟨rfl, rfl⟩
      go_wp2
      go_roundg g
      case measure => omega
      case rel => exact ⟨i + 1, by have := HIG.out; omega, by go_num, C2.out⟩
end Go.Proofs.Ytenbkdmaiooldaa
