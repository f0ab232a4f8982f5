/- The law's world: something new beside it. No condition. -/
import Derived.Test.YtenbkdmaiooldaaArnK
namespace Go.Proofs.Ytenbkdmaiooldaa
open Go.RowKit Go.Cl
set_option linter.unusedVariables false

theorem StG.add {P Q : List Thing → Prop} {bs : Nat} {w w1 : World} {X b n mp : Nat} {p q : Option (Nat × Nat)} {L : List Thing} {u : Thing} (h : StG P Q bs w X b n mp p q L) (hb : bs ≤ w.heap.size) (hc : Chg (fun _ => False) w w1) (hu : u.holds w1) (hf : ∀ i, u.foot i → w.heap.size ≤ i) : StG P Q bs w1 X b n mp p q (u :: L) := by
  obtain ⟨m, pg, R, qs, f, Lp, Lq, h1, h2, h3, h4, h5, h6⟩ := h
  have s := (show Go.Cl.Sep bs w ((memT b m pg mp f :: refT bs n R qs f :: blkT X (wO b n p q) :: (Lp ++ Lq)) ++ L) by simpa [List.append_assoc] using h6).pushAt _ hb hc hu hf
  exact ⟨m, pg, R, qs, f, Lp, Lq, h1, h2, h3, h4, h5, by simpa [List.append_assoc] using s⟩
theorem StG.sub {P Q : List Thing → Prop} {bs : Nat} {w : World} {X b n mp : Nat} {p q : Option (Nat × Nat)} {L L' : List Thing} (h : StG P Q bs w X b n mp p q L) (hs : L'.Sublist L) : StG P Q bs w X b n mp p q L' := by
  obtain ⟨m, pg, R, qs, f, Lp, Lq, h1, h2, h3, h4, h5, h6⟩ := h
  exact ⟨m, pg, R, qs, f, Lp, Lq, h1, h2, h3, h4, h5, h6.sub ((((hs.append_left Lq).append_left Lp).cons_cons _).cons_cons _ |>.cons_cons _)⟩
theorem StG.mem {P Q : List Thing → Prop} {bs : Nat} {w : World} {X b n mp : Nat} {p q : Option (Nat × Nat)} {L : List Thing} (h : StG P Q bs w X b n mp p q L) {t : Thing} (ht : t ∈ L) : t.holds w := by
  obtain ⟨m, pg, R, qs, f, Lp, Lq, h1, h2, h3, h4, h5, h6⟩ := h
  exact h6.all t (by simp [ht])
end Go.Proofs.Ytenbkdmaiooldaa
