/- A new book; looks of a book with few lists. No condition. (As in WirReads, which this text does not import.) -/
import Derived.Test.YtfihpiommicdbaaDoorWirBI
import Derived.Test.YtfihpiommicdbaaDoorWirBD
namespace Go.Proofs.YtfihpiommicdbaaDoor
open Go.RowKit Go.Cl
set_option linter.unusedVariables false
set_option linter.unusedSimpArgs false

theorem _root_.Go.Cl.Sep.noFoot {base : Nat} {w : World} {t : Thing} {L : List Thing} (h : Sep base w L) (ht : t.holds w) (hf : ∀ i, ¬ t.foot i) : Sep base w (t :: L) := by
  refine ⟨fun u hu => ?_, fun u hu i hi => ?_, List.pairwise_cons.2 ⟨fun u hu i hi hj => hf i hi, h.apart⟩⟩
  · rcases List.mem_cons.1 hu with rfl | hu
    · exact ht
    · exact h.all u hu
  · rcases List.mem_cons.1 hu with rfl | hu
    · exact (hf i hi).elim
    · exact h.above u hu i hi
/-- A new book. -/
theorem book_new {base n0 B : Nat} {w : World} {R : List Thing} (h : Sep base w R) (hB : blk w B = some (.cells #[.slice none 0 0, .slice none 0 0, .slice none 0 0, .slice none 0 0, .slice none 0 0, .slice none 0 0] 43 (0, 0))) (hold : ∀ t ∈ R, ∀ i, t.foot i → i < n0) (hn : n0 ≤ B) (hb : base ≤ n0) : BookAt base w B ⟨[], [], []⟩ R := by
  have hm : (markT (fun _ => False) []).holds w := by unfold markT; exact ⟨by simp, fun i hi => hi.elim⟩
  have h1 := h.noFoot hm fun i hi => hi
  have h2 := (((((h1.nilRow 24 1).nilRow 24 1).nilRow 24 1).nilRow 24 1).nilRow 5 1).nilRow 24 1
  have h3 := h2.add (u := blkT B (.cells #[.slice none 0 0, .slice none 0 0, .slice none 0 0, .slice none 0 0, .slice none 0 0, .slice none 0 0] 43 (0, 0))) (n0 := n0) (fun t ht i hi => by
    have nof : ∀ (e : TypeId), ¬ (rowT base e 1 (.slice none 0 0) 0 []).foot i := fun e hf => by
      have hf : some i = none := hf
      cases hf
    simp only [List.mem_cons] at ht
    rcases ht with rfl | rfl | rfl | rfl | rfl | rfl | rfl | ht
    · exact (nof _ hi).elim
    · exact (nof _ hi).elim
    · exact (nof _ hi).elim
    · exact (nof _ hi).elim
    · exact (nof _ hi).elim
    · exact (nof _ hi).elim
    · exact (show False from hi).elim
    · exact hold t ht i hi) hB (fun i hi => by
      have hi : i = B := hi
      omega) hb
  exact ⟨_, _, _, _, _, _, _, h3⟩

/-- What looks leaves of a book with few lists. -/
theorem looks_few {base B m : Nat} {w : World} {bs : BS} {R : List Thing} (h : BookAt base w B bs R) (hb : base ≤ w.heap.size) (hf : bs.few m) (hm : m ≤ 1000000) : Calls Tryd.prog 21 #[.pointer (some ⟨B, 0, none⟩)] w fun e w' => e = .returned (.bool true) ∧ (∃ bs', bs'.few m ∧ BookAt base w' B bs' R) ∧ Chg (fun i => base ≤ i) w w' :=
  (looks_ok h hb (hf.small hm)).mono fun e w' he => ⟨he.1, by
    obtain ⟨L', h1, h2, h3⟩ := he.2.1
    exact ⟨_, hf.looks h2 h3, h1⟩, he.2.2⟩

end Go.Proofs.YtfihpiommicdbaaDoor
