/- The Book of the laws: what looks makes of it (plain). No condition. -/
import Derived.Test.YtfihpiommicdbaaDoorWirBB
namespace Go.Proofs.YtfihpiommicdbaaDoor
open Go.RowKit Go.Cl
set_option linter.unusedVariables false

/-- Two that are one's. -/
def joinT (t u : Thing) : Thing := ⟨fun w => t.holds w ∧ u.holds w, fun i => t.foot i ∨ u.foot i, fun h hc hs => ⟨t.stable h.1 hc fun i hi => hs i (.inl hi), u.stable h.2 hc fun i hi => hs i (.inr hi)⟩, fun h hi => hi.elim (t.old h.1) (u.old h.2)⟩
theorem _root_.Go.Cl.Sep.join {base : Nat} {w : World} {t u : Thing} {L : List Thing} (h : Sep base w (t :: u :: L)) : Sep base w (joinT t u :: L) := by
  have h1 := List.pairwise_cons.1 h.apart
  have h2 := List.pairwise_cons.1 h1.2
  refine ⟨fun x hx => ?_, fun x hx i hi => ?_, List.pairwise_cons.2 ⟨fun x hx i hi hj => ?_, h2.2⟩⟩
  · rcases List.mem_cons.1 hx with rfl | hx
    · exact ⟨h.all t (by simp), h.all u (by simp)⟩
    · exact h.all x (by simp [hx])
  · rcases List.mem_cons.1 hx with rfl | hx
    · rcases hi with hi | hi
      · exact h.above t (by simp) i hi
      · exact h.above u (by simp) i hi
    · exact h.above x (by simp [hx]) i hi
  · rcases hi with hi | hi
    · exact h1.1 x (by simp [hx]) i hi hj
    · exact h2.1 x hx i hi hj
theorem _root_.Go.Cl.Sep.joinAt {base : Nat} {w : World} {t u : Thing} (A : List Thing) {L : List Thing} (h : Sep base w (A ++ t :: u :: L)) : Sep base w (A ++ joinT t u :: L) := by
  have hp : (A ++ t :: u :: L).Perm (t :: u :: (A ++ L)) := List.perm_middle.trans (List.Perm.cons _ List.perm_middle)
  exact (h.perm hp).join.perm List.perm_middle.symm

def coreM (base B : Nat) (lv mv fv wv hv tv : Value) (D : Nat → Prop) (L Ld : List (Value × Int)) (held fresh : List Ent) : List Thing :=
  [blkT B (.cells #[lv, mv, fv, wv, hv, tv] 43 (0, 0)), rowT base 24 1 lv L.length (L.map (·.1)), rowT base 5 1 mv L.length (u8s (L.map (·.2))),
   rowT base 24 1 fv fresh.length (fresh.map (·.1)), rowT base 24 1 wv fresh.length (fresh.map (·.2.1)), rowT base 24 1 hv held.length (held.map (·.1)), rowT base 24 1 tv held.length (held.map (·.2.1)), markT D Ld]
/-- The mark of a list that comes n-th. -/
def mk (n : Nat) : Int := ((n % 254 + 1 : Nat) : Int)
theorem mk_bd (n : Nat) : 0 ≤ mk n ∧ mk n ≤ 255 := by unfold mk; omega
/-- The lists that were held, with their marks. -/
def pz : Nat → List Ent → List (Value × Int)
  | _, [] => []
  | n, e :: l => (e.1, mk n) :: pz (n + 1) l
/-- They as rows, full of marks. -/
def pend (base : Nat) : Nat → List Ent → List Thing
  | _, [] => []
  | n, e :: l => rowT base 5 1 e.1 e.2.2.length (u8s (List.replicate e.2.2.length (mk n))) :: pend base (n + 1) l
/-- They as rows. -/
def vrows (base : Nat) (l : List Ent) : List Thing := l.map fun e => rowT base 5 1 e.1 e.2.2.length (u8s e.2.2)
theorem pz_snoc (l : List Ent) (e : Ent) : ∀ n, pz n (l ++ [e]) = pz n l ++ [(e.1, mk (n + l.length))] := by
  induction l with
  | nil => intro n; rfl
  | cons a l ih =>
    intro n
    show (a.1, mk n) :: pz (n + 1) (l ++ [e]) = (a.1, mk n) :: (pz (n + 1) l ++ _)
    rw [ih, List.length_cons, Nat.add_assoc, Nat.add_comm 1]
theorem pend_snoc (base : Nat) (l : List Ent) (e : Ent) : ∀ n, pend base n (l ++ [e]) = pend base n l ++ [rowT base 5 1 e.1 e.2.2.length (u8s (List.replicate e.2.2.length (mk (n + l.length))))] := by
  induction l with
  | nil => intro n; rfl
  | cons a l ih =>
    intro n
    show _ :: pend base (n + 1) (l ++ [e]) = _ :: (pend base (n + 1) l ++ _)
    rw [ih, List.length_cons, Nat.add_assoc, Nat.add_comm 1]
theorem pz_len (l : List Ent) : ∀ n, (pz n l).length = l.length := by
  induction l with
  | nil => intro n; rfl
  | cons a l ih => intro n; simp [pz, ih]
theorem pz_at (l : List Ent) : ∀ n j (e : Ent), l[j]? = some e → (pz n l)[j]? = some (e.1, mk (n + j)) := by
  induction l with
  | nil => intro n j e h; simp at h
  | cons a l ih =>
    intro n j e h
    cases j with
    | zero => simp at h; subst h; rfl
    | succ j =>
      have := ih (n + 1) j e (by simpa using h)
      rw [show n + (j + 1) = n + 1 + j by omega]
      simpa [pz] using this
theorem pz_bd (l : List Ent) : ∀ n, ∀ x ∈ pz n l, 0 ≤ x.2 ∧ x.2 ≤ 255 := by
  induction l with
  | nil => intro n x h; cases h
  | cons a l ih =>
    intro n x h
    rcases List.mem_cons.1 h with rfl | h
    · exact mk_bd n
    · exact ih (n + 1) x h
theorem pend_drop (base : Nat) (l : List Ent) : ∀ n j (e : Ent), l[j]? = some e → pend base (n + j) (l.drop j) = rowT base 5 1 e.1 e.2.2.length (u8s (List.replicate e.2.2.length (mk (n + j)))) :: pend base (n + (j + 1)) (l.drop (j + 1)) := by
  intro n j e h
  obtain ⟨hl, he⟩ := List.getElem?_eq_some_iff.1 h
  rw [List.drop_eq_getElem_cons hl, he]
  rfl
theorem take_snocE {α : Type} {l : List α} {i : Nat} {e : α} (h : l[i]? = some e) : l.take (i + 1) = l.take i ++ [e] := by
  obtain ⟨hl, he⟩ := List.getElem?_eq_some_iff.1 h
  rw [List.take_succ_eq_append_getElem hl, he]
theorem drop_consE {α : Type} {l : List α} {i : Nat} {e : α} (h : l[i]? = some e) : l.drop i = e :: l.drop (i + 1) := by
  obtain ⟨hl, he⟩ := List.getElem?_eq_some_iff.1 h
  rw [List.drop_eq_getElem_cons hl, he]
/-- The first k are written over. -/
def overM (m : Int) (xs : List Int) (k : Nat) : List Int := List.replicate k m ++ xs.drop k
theorem overM_len {m : Int} {xs : List Int} {k : Nat} (h : k ≤ xs.length) : (overM m xs k).length = xs.length := by simp [overM]; omega
theorem overM_zero (m : Int) (xs : List Int) : overM m xs 0 = xs := by simp [overM]
theorem overM_all (m : Int) (xs : List Int) : overM m xs xs.length = List.replicate xs.length m := by simp [overM]
theorem overM_succ {m : Int} {xs : List Int} {k : Nat} (h : k < xs.length) : (overM m xs k).set k m = overM m xs (k + 1) := by
  unfold overM
  rw [List.set_append_right _ _ (by simp), List.length_replicate, Nat.sub_self, List.drop_eq_getElem_cons h, List.set_cons_zero, List.replicate_succ', List.append_assoc]
  rfl
/-- Copies are dropped. -/
theorem rows_v (base : Nat) (l : List Ent) : (vrows base l).Sublist (rowsOf base l) := by
  induction l with
  | nil => exact List.Sublist.refl _
  | cons a l ih => exact (ih.cons _).cons_cons _
theorem mem_rows {base : Nat} {l : List Ent} {e : Ent} (h : e ∈ l) : rowT base 5 1 e.1 e.2.2.length (u8s e.2.2) ∈ rowsOf base l ∧ rowT base 5 1 e.2.1 e.2.2.length (u8s e.2.2) ∈ rowsOf base l := by
  unfold rowsOf
  constructor <;> exact List.mem_flatMap.2 ⟨e, h, by simp⟩
end Go.Proofs.YtfihpiommicdbaaDoor
