/- A range over a map under way ('RangeIs'): which pairs are still to come; the laws of its steps. No condition. -/
import Derived.Test.YtoglgkplddlemaaLibMaps
namespace Go.Cl
open Go.ChangeMaps Go.MapKept Go.RowKit
open Go.Maps (Keyed)

def entryPair (e : MapEntry) : Value × Value := (e.key, e.val)

/-- BLOCK r OF w GOES OVER THE MAP IN BLOCK m; rest is still to come; nothing was laid into the map since. -/
def RangeIs (P : Program) (k : TypeId) (w : World) (m r : Nat) (rest : List (Value × Value)) : Prop :=
  ∃ es clock since seen c0, blk w m = some (.map es clock) ∧ Stamped es clock ∧ (∀ e ∈ es.toList, IsKey P k e.key) ∧ blk w r = some (.mapIter (some m) since seen c0) ∧ (∀ x ∈ es.toList, x.born < since) ∧ since ≤ c0 ∧ since ≤ clock ∧
    ((leftOf es seen).toList.map entryPair).Perm rest

section
variable {P : Program} {k : TypeId} {w : World} {m r : Nat} {F rest : List (Value × Value)}

theorem RangeIs.frame {S : Nat → Prop} {w' : World} (h : RangeIs P k w m r rest) (hc : Chg S w w') (hm : ¬ S m) (hr : ¬ S r) : RangeIs P k w' m r rest := by
  obtain ⟨es, clock, since, seen, c0, a1, a2, a3, a4, a5⟩ := h
  exact ⟨es, clock, since, seen, c0, hc.blk' a1 hm, a2, a3, hc.blk' a4 hr, a5⟩

theorem RangeIs.lt (h : RangeIs P k w m r rest) : m < w.heap.size ∧ r < w.heap.size ∧ r ≠ m := by
  obtain ⟨es, clock, since, seen, c0, a1, a2, a3, a4, a5⟩ := h
  refine ⟨blk_lt a1, blk_lt a4, fun e => ?_⟩
  rw [e, a1] at a4
  cases a4

theorem RangeIs.perm {G : List (Value × Value)} (h : RangeIs P k w m r rest) (hp : rest.Perm G) : RangeIs P k w m r G := by
  obtain ⟨es, clock, since, seen, c0, a1, a2, a3, a4, a5, a6, a7, a8⟩ := h
  exact ⟨es, clock, since, seen, c0, a1, a2, a3, a4, a5, a6, a7, a8.trans hp⟩

theorem MapIs.range (h : MapIs P k w m F) {t e : TypeId} (ht : P.underlying t = some (.map k e)) :
    ∃ o, (∀ w' : World, blk w' m = blk w m → (Instr.range t (.map (some m))).run P w' = .ok (.pointer (some ⟨w'.heap.size, 0, none⟩)) (w'.alloc o)) ∧
      ∀ (w' : World) (r : Nat), blk w' m = blk w m → blk w' r = some o → RangeIs P k w' m r F := by
  obtain ⟨es, clock, hb, hs, hk, hf⟩ := h
  refine ⟨.mapIter (some m) clock #[] clock, fun w' he => run_range_map w' t k e m es clock ht (he.trans hb), fun w' r he hr => ⟨es, clock, clock, #[], clock, he.trans hb, hs, hk, hr, hs.1, Nat.le_refl _, Nat.le_refl _, ?_⟩⟩
  have : leftOf es #[] = es := by simp [leftOf]
  rw [this]
  exact hf

theorem perm_filter_born {l : List MapEntry} (hn : (l.map (·.born)).Nodup) {e : MapEntry} (he : e ∈ l) : (l.map entryPair).Perm (entryPair e :: (l.filter fun x => x.born != e.born).map entryPair) := by
  induction l with
  | nil => simp at he
  | cons x l ih =>
    simp only [List.map_cons, List.nodup_cons] at hn
    rcases List.mem_cons.1 he with rfl | he
    · have : (e :: l).filter (fun x => x.born != e.born) = l := by
        rw [List.filter_cons_of_neg (by simp)]
        refine List.filter_eq_self.2 fun y hy => ?_
        have : y.born ≠ e.born := fun e1 => hn.1 (List.mem_map.2 ⟨y, hy, e1⟩)
        simpa using this
      rw [this]
      simp
    · have hne : x.born ≠ e.born := fun e1 => hn.1 (List.mem_map.2 ⟨e, he, e1.symm⟩)
      rw [List.filter_cons_of_pos (by simpa using hne)]
      simp only [List.map_cons]
      exact ((ih hn.2 he).cons _).trans (List.Perm.swap _ _ _)

theorem leftOf_push (es : Array MapEntry) (seen : Array Nat) (b : Nat) : (leftOf es (seen.push b)).toList = (leftOf es seen).toList.filter fun x => x.born != b := by
  simp only [leftOf, Array.toList_filter, List.filter_filter]
  congr 1
  funext x
  simp only [Array.contains_push, Bool.not_or, bne]
  rw [Bool.and_comm]

/-- The step: nothing is left; or some pair that is left, whichever the tape says. -/
theorem RangeIs.next (h : RangeIs P k w m r rest) (ty : TypeId) :
    (rest = [] ∧ (Instr.next (.pointer (some ⟨r, 0, none⟩)) false ty).run P w = .ok (.tuple #[.bool false]) w) ∨
    ∃ key v rest' w', (Instr.next (.pointer (some ⟨r, 0, none⟩)) false ty).run P w = .ok (.tuple #[.bool true, key, v]) w' ∧ rest.Perm ((key, v) :: rest') ∧ IsKey P k key ∧ RangeIs P k w' m r rest' ∧ Chg (fun i => i = r) w w' ∧ w'.heap.size = w.heap.size ∧
      ∀ w'' : World, blk w'' m = blk w' m → blk w'' r = blk w' r → (Instr.entry (.pointer (some ⟨r, 0, none⟩))).run P w'' = .ok (.tuple #[key, v]) w'' := by
  have hlt := h.lt
  obtain ⟨es, clock, since, seen, c0, a1, a2, a3, a4, a5, a6, a7, a8⟩ := h
  rcases run_next_at w ty r m since c0 seen es clock a4 a1 a5 a6 with ⟨h1, h2⟩ | ⟨e, he, w1, hw1, hrun⟩
  · left
    have : (leftOf es seen).toList = [] := by
      have : leftOf es seen = #[] := Array.eq_empty_of_size_eq_zero h1
      rw [this]
    rw [this] at a8
    exact ⟨a8.symm.eq_nil, h2⟩
  · right
    have hes : e ∈ es.toList := by
      have : e ∈ leftOf es seen := by simpa using he
      unfold leftOf at this
      simpa using (Array.mem_filter.1 this).1
    have hnd : ((leftOf es seen).toList.map (·.born)).Nodup := by
      have h2 := ((stamped_iff es clock).1 a2).2.1
      simp only [leftOf, Array.toList_filter]
      exact List.Sublist.nodup ((List.filter_sublist (l := es.toList)).map _) h2
    have hp := perm_filter_born hnd he
    rw [← leftOf_push] at hp
    have hb1 : ∀ j, j ≠ r → blk (setBlock w1 r (.mapIter (some m) since (seen.push e.born) clock)) j = blk w j := fun j hj => by
      rw [blk_setBlock_ne _ _ _ _ hj]
      rcases hw1 with rfl | rfl <;> rfl
    have hsz : w1.heap.size = w.heap.size := by rcases hw1 with rfl | rfl <;> rfl
    have hr1 : blk (setBlock w1 r (.mapIter (some m) since (seen.push e.born) clock)) r = some (.mapIter (some m) since (seen.push e.born) clock) := blk_setBlock_eq _ _ _ (by rw [hsz]; exact hlt.2.1)
    refine ⟨e.key, e.val, (leftOf es (seen.push e.born)).toList.map entryPair, _, hrun, a8.symm.trans hp, a3 e hes, ⟨es, clock, since, seen.push e.born, clock, (hb1 m (Ne.symm hlt.2.2)).trans a1, a2, a3, hr1, a5, a7, a7, List.Perm.refl _⟩, ?_, by simp [hsz], ?_⟩
    · rcases hw1 with rfl | rfl
      · exact (Chg.refl _ _).setBlock (by simp) _
      · exact (Chg.refl _ _).drew.setBlock (by simp) _
    · intro w'' e1 e2
      exact run_entry_at w'' r m since seen es clock e (e2.trans hr1) ((e1.trans (hb1 m (Ne.symm hlt.2.2))).trans a1) hes ((stamped_iff es clock).1 a2).2.1

end

section
variable {P : Program} {k : TypeId} {w : World} {m r : Nat} {F rest : List (Value × Value)}

/-- 'delete' within the range, of a key that was handed out: what is still to come stays. -/
theorem RangeIs.drop_hit (K : Keyed P k) {t e : TypeId} (ht : P.underlying t = some (.map k e)) {G : List (Value × Value)} {key old : Value} (h : RangeIs P k w m r rest) (hM : MapIs P k w m F) (hkey : IsKey P k key) (hF : F.Perm ((key, old) :: G)) (hno : ∀ p ∈ rest, p.1 ≠ key) (ty : TypeId) :
    ∃ o, (∀ w' : World, blk w' m = blk w m → (Builtin.delete_ #[t, k] ty #[.map (some m), key]).run P w' = .ok (.tuple #[]) (setBlock w' m o)) ∧
      ∀ w' : World, blk w' m = some o → MapIs P k w' m G ∧ (blk w' r = blk w r → RangeIs P k w' m r rest) := by
  obtain ⟨o, hrun, hafter⟩ := hM.drop_hit K ht hkey hF ty
  refine ⟨o, hrun, fun w' hw' => ⟨hafter w' hw', fun hr => ?_⟩⟩
  -- what o is: the run at w itself tells
  obtain ⟨es, clock, since, seen, c0, a1, a2, a3, a4, a5, a6, a7, a8⟩ := h
  have hp := ((stamped_iff es clock).1 a2).2.2
  have hrunw := hrun w rfl
  have a1' : w.heap[m]? = some (.map es clock) := a1
  have hlt : m < w.heap.size := blk_lt a1
  obtain ⟨es', hes', hsub, hleft⟩ : ∃ es', o = .map es' clock ∧ es'.toList.Sublist es.toList ∧ leftOf es' seen = leftOf es seen := by
    obtain ⟨l, hl⟩ := hkey
    rcases find_entry K a3 ⟨l, hl⟩ w with ⟨h1, h2⟩ | ⟨j, e0, h1, h2, h3⟩
    · simp only [Builtin.delete_, List.getElem?_toArray, List.getElem?_cons_zero, List.getElem?_cons_succ, Sem.run_bind, run_underlying ht, Result.andThen, MapKept.run_getObj_map a1', K.check w _ hl, h1, MapKept.run_setObj_map _ a1'] at hrunw
      injection hrunw with _ hw
      have := congrArg (fun x => blk x m) hw
      simp only [blk_setBlock_eq _ _ _ hlt] at this
      simp [blk, hlt] at this
      exact ⟨es, this.symm, List.Sublist.refl _, rfl⟩
    · simp only [Builtin.delete_, List.getElem?_toArray, List.getElem?_cons_zero, List.getElem?_cons_succ, Sem.run_bind, run_underlying ht, Result.andThen, MapKept.run_getObj_map a1', K.check w _ hl, h1, MapKept.run_setObj_map _ a1'] at hrunw
      injection hrunw with _ hw
      have := congrArg (fun x => blk x m) hw
      simp only [blk_setBlock_eq _ _ _ hlt] at this
      simp [blk, hlt] at this
      have hjl : j < es.toList.length := (List.getElem?_eq_some_iff.1 h2).1
      have hl : (es.eraseIdxIfInBounds j).toList = es.toList.eraseIdx j := by
        unfold Array.eraseIdxIfInBounds
        rw [dif_pos (by simpa using hjl)]
        simp
      refine ⟨_, this.symm, by rw [hl]; exact List.eraseIdx_sublist _ _, ?_⟩
      apply Array.ext'
      simp only [leftOf, Array.toList_filter, hl]
      have hseen : seen.contains e0.born = true := by
        cases hc : seen.contains e0.born with
        | true => rfl
        | false =>
          have hm : entryPair e0 ∈ rest := a8.mem_iff.1 (List.mem_map.2 ⟨e0, by simp only [leftOf, Array.toList_filter, List.mem_filter]; exact ⟨List.mem_of_getElem? h2, by simp only [hc]; rfl⟩, rfl⟩)
          exact absurd h3 (hno _ hm)
      have hsplit := List.eraseIdx_eq_take_drop_succ es.toList j
      have hall : es.toList = es.toList.take j ++ e0 :: es.toList.drop (j + 1) := by
        conv => lhs; rw [← List.take_append_drop j es.toList, List.drop_eq_getElem_cons hjl]
        rw [(List.getElem?_eq_some_iff.1 h2).2]
      rw [hsplit, List.filter_append]
      conv => rhs; rw [hall]
      rw [List.filter_append, List.filter_cons_of_neg (by simp only [hseen]; simp)]
  subst hes'
  obtain ⟨es2, clock2, b1, b2, b3, _⟩ := hafter w' hw'
  have e2 : blk w' m = some (.map es2 clock2) := b1
  rw [hw'] at e2
  cases e2
  exact ⟨es', clock, since, seen, c0, hw', b2, b3, hr.trans a4, fun x hx => a5 x (hsub.subset hx), a6, a7, by rw [hleft]; exact a8⟩
end

section
variable {P : Program} (w : World) {ops : Array Oper} {rest : List Oper} {o : Oper} {a : Act} {Q : Exit → Act → World → Prop}

/-- The step at the operation. -/
theorem wpList_next_is (hg : o.guard = none) (it : Operand) (hop : o.op = Op.next it false) (k : TypeId) (m r : Nat) (left : List (Value × Value))
    (hit : a.eval it = .pointer (some ⟨r, 0, none⟩)) (h : RangeIs P k w m r left)
    (hDone : left = [] → wpList P ops Q rest (a.put o.dst (.tuple #[.bool false])) w)
    (hMore : ∀ key v left' w', left.Perm ((key, v) :: left') → IsKey P k key → RangeIs P k w' m r left' → Chg (fun i => i = r) w w' → w'.heap.size = w.heap.size →
      (∀ w'' : World, blk w'' m = blk w' m → blk w'' r = blk w' r → (Instr.entry (.pointer (some ⟨r, 0, none⟩))).run P w'' = .ok (.tuple #[key, v]) w'') → wpList P ops Q rest (a.put o.dst (.tuple #[.bool true, key, v])) w') :
    wpList P ops Q (o :: rest) a w := by
  refine wpList_plain hg fun K' hK' => ?_
  unfold Oper.wp
  rcases h.next o.type with ⟨h1, hrun⟩ | ⟨key, v, rest', w', hrun, h1, h2, h3, h4, h5, h6⟩
  · simp [execOp, hop, hit, hrun, Result.andThen]
    exact hK' _ _ (hDone h1)
  · simp [execOp, hop, hit, hrun, Result.andThen]
    exact hK' _ _ (hMore key v rest' w' h1 h2 h3 h4 h5 h6)

/-- .. the pairs told by a list of things. -/
theorem wpList_next_of {α : Type} [DecidableEq α] (fK fV : α → Value) (hg : o.guard = none) (it : Operand) (hop : o.op = Op.next it false) (k : TypeId) (m r : Nat) (left : List α)
    (hit : a.eval it = .pointer (some ⟨r, 0, none⟩)) (h : RangeIs P k w m r (left.map fun x => (fK x, fV x)))
    (hDone : left = [] → wpList P ops Q rest (a.put o.dst (.tuple #[.bool false])) w)
    (hMore : ∀ x w', x ∈ left → RangeIs P k w' m r ((left.erase x).map fun x => (fK x, fV x)) → Chg (fun i => i = r) w w' → w'.heap.size = w.heap.size →
      (∀ w'' : World, blk w'' m = blk w' m → blk w'' r = blk w' r → (Instr.entry (.pointer (some ⟨r, 0, none⟩))).run P w'' = .ok (.tuple #[fK x, fV x]) w'') → wpList P ops Q rest (a.put o.dst (.tuple #[.bool true, fK x, fV x])) w') :
    wpList P ops Q (o :: rest) a w := by
  refine wpList_next_is w hg it hop k m r _ hit h (fun e => hDone (by simpa using e)) fun key v left' w' h1 h2 h3 h4 h5 h6 => ?_
  have hm : (key, v) ∈ left.map fun x => (fK x, fV x) := h1.mem_iff.2 (by simp)
  obtain ⟨x, hx, e⟩ := List.mem_map.1 hm
  simp only [Prod.mk.injEq] at e
  obtain ⟨rfl, rfl⟩ := e
  have hp : (left.map fun x => (fK x, fV x)).Perm ((fK x, fV x) :: (left.erase x).map fun x => (fK x, fV x)) := (List.perm_cons_erase hx).map _
  exact hMore x w' hx (h3.perm (List.Perm.cons_inv (h1.symm.trans hp))) h4 h5 h6
end
end Go.Cl
