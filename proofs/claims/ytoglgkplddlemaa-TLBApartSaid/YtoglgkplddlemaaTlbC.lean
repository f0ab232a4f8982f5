/- Contracts of package tlb's Put where nothing goes, and of Put as a whole. No condition. -/
import Derived.Test.YtoglgkplddlemaaTlbB
namespace Go.Proofs.Ytoglgkplddlemaa
open Go.RowKit Go.Cl
open Go.Maps (Keyed)
open Go.ChangeMaps (setBlock)
set_option linter.unusedVariables false
set_option linter.unusedSimpArgs false
attribute [local go_sem] lt_add_one' blk_alloc_past blk_alloc_at blk_drew blk_setCell_ne blk_setBlock_ne blk_setBlock_eq cell_setBlock_ne frozen_setBlock_ne size_setBlock

set_option maxHeartbeats 1000000 in
theorem put_hit {b m : Nat} {sl now : Int} {L : List En} {c p f r : Int} {e0 : En} {w : World} (h : TlbIs w b m sl now L) (ht : TagOk c p) (he : hitE L c p = some e0) (hn : now < 999999999) :
    Calls Try.prog 14 #[.pointer (some ⟨b, 0, none⟩), .agg #[.int .i64 c, .int .u32 p], .agg #[.int .u32 f, .int .u8 r]] w fun e w' => e = .returned (.tuple #[.agg #[.int .i64 0, .int .u32 0], .bool false]) ∧ TlbIs w' b m sl (now + 1) (bump L c p f r now) ∧ Chg (fun i => i = b ∨ i = m) w w' := by
  obtain ⟨-, -, hlt0, hltm0, c0, c1, c2, f2⟩ := h.facts
  obtain ⟨_, _, _, _, _, _, _, _, _, _, _, _, _, _, _, _, _, _⟩ := lts hlt0
  obtain ⟨_, _, _, _, _, _, _, _, _, _, _, _, _, _, _, _, _, _⟩ := lts hltm0
  have hlk := h.look_hit ht he
  have hne := h.ne
  have hne' := h.ne.symm
  have f9 : ((bump L c p f r now).length : Int) ≤ sl := by
    obtain ⟨h1, h2, h3⟩ := hit_some he
    have := bump_len (f := f) (r := r) (now := now) h1 (by simp [En.is, h2, h3] : e0.is c p = true)
    have := h.few
    omega
  have H := Lib.hid h
  have HE := Lib.hid he
  have F9 := Lib.hid f9
  clear h he f9
  go_enter Try.func14, Try.ntmps14
  go_wp2
  go_region
  go_wp2
  go_region
  go_wp2_with fail
  refine (use_ok (b := b) (m := m) f r (H.out.frame (S := fun _ => False) ?_ (by simp) (by simp)) ht hn F9.out).mono ?_
  · repeat (first | exact Chg.refl _ _ | apply Chg.drew | (refine Chg.setCell ?_ (by simp) _) | (refine Chg.alloc ?_ _) | (refine Chg.setBlock ?_ (by simp) _))
  rintro e w1 ⟨rfl, h1, g1⟩
  have b6 : blk w1 (w.heap.size + 1 + 1) = some (.cells #[.int .i64 0, .int .u32 0] 32 (0, 0)) := g1.blk' (by simp (disch := (first | omega | (simp only [World.size_alloc, World.size_drew, World.size_setCell, size_setBlock] <;> omega) | fail)) only [blk_drew, blk_alloc_past, blk_alloc_at, blk_setCell_ne, blk_setCell_eq, blk_setBlock_ne, blk_setBlock_eq]) (by omega)
  have gl1 := blk_lt b6
  obtain ⟨_, _, _, _, _, _, _, _, _, _, _, _, _, _, _, _, _, _⟩ := lts gl1
  have d2 := cell_of_blk b6 0
  have d3 := cell_of_blk b6 1
  have r2 := frozen_of_blk b6 0
  have r3 := frozen_of_blk b6 1
  simp only [List.getElem?_toArray, List.getElem?_cons_zero, List.getElem?_cons_succ] at d2 d3
  have HG1 := Lib.hid g1
  have H1 := Lib.hid h1
  clear g1 h1 b6
  go_wp2
  refine bodyPost_ret (v := .tuple #[.agg #[.int .i64 0, .int .u32 0], .bool false]) (by simp [results, Try.results14, go_sem, *]) rfl ⟨rfl, H1.out.frame (S := fun i => i = w.heap.size + 1 + 1) ?_ (by omega) (by omega), ?_⟩
  · repeat (first | exact Chg.refl _ _ | apply Chg.drew | (refine Chg.setCell ?_ (by simp) _) | (refine Chg.alloc ?_ _) | (refine Chg.setBlock ?_ (by simp) _))
  · refine Chg.step (S1 := fun i => i = b ∨ i = m) (S2 := fun i => i = w.heap.size + 1 + 1) (b := w1) (Chg.step (S1 := fun _ => False) (b := World.drew _) ?_ HG1.out ?_ ?_) ?_ ?_ ?_
    · repeat (first | exact Chg.refl _ _ | apply Chg.drew | (refine Chg.setCell ?_ (by simp) _) | (refine Chg.alloc ?_ _) | (refine Chg.setBlock ?_ (by simp) _))
    · exact fun i _ h => h.elim
    · exact fun i _ h => h
    · repeat (first | exact Chg.refl _ _ | apply Chg.drew | (refine Chg.setCell ?_ (by simp) _) | (refine Chg.alloc ?_ _) | (refine Chg.setBlock ?_ (by simp) _))
    · exact fun i _ h => h
    · intro i hi h
      omega

theorem cut_none {L : List En} {c p : Int} (he : hitE L c p = none) : L.filter (fun e => !e.is c p) = L :=
  List.filter_eq_self.2 fun e h => by simpa using List.find?_eq_none.1 he e h

set_option maxHeartbeats 1000000 in
theorem put_room {b m : Nat} {sl now : Int} {L : List En} {c p f r : Int} {w : World} (h : TlbIs w b m sl now L) (ht : TagOk c p) (he : hitE L c p = none) (hroom : (L.length : Int) < sl) (hn : now < 999999999) :
    Calls Try.prog 14 #[.pointer (some ⟨b, 0, none⟩), .agg #[.int .i64 c, .int .u32 p], .agg #[.int .u32 f, .int .u8 r]] w fun e w' => e = .returned (.tuple #[.agg #[.int .i64 0, .int .u32 0], .bool false]) ∧ TlbIs w' b m sl (now + 1) (bump L c p f r now) ∧ Chg (fun i => i = b ∨ i = m) w w' := by
  obtain ⟨-, -, hlt0, hltm0, c0, c1, c2, f2⟩ := h.facts
  obtain ⟨_, _, _, _, _, _, _, _, _, _, _, _, _, _, _, _, _, _⟩ := lts hlt0
  obtain ⟨_, _, _, _, _, _, _, _, _, _, _, _, _, _, _, _, _, _⟩ := lts hltm0
  have hlk := h.look_miss ht he
  have hl := h.mp.run_len Try.underlying82 3
  rw [List.length_map] at hl
  have hfu : ((L.length : Int) == sl) = false := by simp; omega
  have hfu2 : ¬ ((L.length : Int) = sl) := by omega
  have hne := h.ne
  have hne' := h.ne.symm
  have f9 : ((bump L c p f r now).length : Int) ≤ sl := by
    simp only [bump, List.length_cons, cut_none he]
    omega
  have H := Lib.hid h
  have HE := Lib.hid he
  have F9 := Lib.hid f9
  clear h he f9
  go_enter Try.func14, Try.ntmps14
  go_wp2
  go_region
  go_wp2
  go_region
  go_wp2_with fail
  refine (use_ok (b := b) (m := m) f r (H.out.frame (S := fun _ => False) ?_ (by simp) (by simp)) ht hn F9.out).mono ?_
  · repeat (first | exact Chg.refl _ _ | apply Chg.drew | (refine Chg.setCell ?_ (by simp) _) | (refine Chg.alloc ?_ _) | (refine Chg.setBlock ?_ (by simp) _))
  rintro e w1 ⟨rfl, h1, g1⟩
  have b6 : blk w1 (w.heap.size + 1 + 1) = some (.cells #[.int .i64 0, .int .u32 0] 32 (0, 0)) := g1.blk' (by simp (disch := (first | omega | (simp only [World.size_alloc, World.size_drew, World.size_setCell, size_setBlock] <;> omega) | fail)) only [blk_drew, blk_alloc_past, blk_alloc_at, blk_setCell_ne, blk_setCell_eq, blk_setBlock_ne, blk_setBlock_eq]) (by omega)
  have gl1 := blk_lt b6
  obtain ⟨_, _, _, _, _, _, _, _, _, _, _, _, _, _, _, _, _, _⟩ := lts gl1
  have d2 := cell_of_blk b6 0
  have d3 := cell_of_blk b6 1
  have r2 := frozen_of_blk b6 0
  have r3 := frozen_of_blk b6 1
  simp only [List.getElem?_toArray, List.getElem?_cons_zero, List.getElem?_cons_succ] at d2 d3
  have HG1 := Lib.hid g1
  have H1 := Lib.hid h1
  clear g1 h1 b6
  go_wp2
  refine bodyPost_ret (v := .tuple #[.agg #[.int .i64 0, .int .u32 0], .bool false]) (by simp [results, Try.results14, go_sem, *]) rfl ⟨rfl, H1.out.frame (S := fun i => i = w.heap.size + 1 + 1) ?_ (by omega) (by omega), ?_⟩
  · repeat (first | exact Chg.refl _ _ | apply Chg.drew | (refine Chg.setCell ?_ (by simp) _) | (refine Chg.alloc ?_ _) | (refine Chg.setBlock ?_ (by simp) _))
  · refine Chg.step (S1 := fun i => i = b ∨ i = m) (S2 := fun i => i = w.heap.size + 1 + 1) (b := w1) (Chg.step (S1 := fun _ => False) (b := World.drew _) ?_ HG1.out ?_ ?_) ?_ ?_ ?_
    · repeat (first | exact Chg.refl _ _ | apply Chg.drew | (refine Chg.setCell ?_ (by simp) _) | (refine Chg.alloc ?_ _) | (refine Chg.setBlock ?_ (by simp) _))
    · exact fun i _ h => h.elim
    · exact fun i _ h => h
    · repeat (first | exact Chg.refl _ _ | apply Chg.drew | (refine Chg.setCell ?_ (by simp) _) | (refine Chg.alloc ?_ _) | (refine Chg.setBlock ?_ (by simp) _))
    · exact fun i _ h => h
    · intro i hi h
      omega

/-- What Put makes of a list: what stands behind it, and whose tag went. -/
def putL (L : List En) (sl : Int) (c p f r now : Int) : List En × Option En :=
  if (hitE L c p).isSome then (bump L c p f r now, none)
  else if (L.length : Int) < sl then (bump L c p f r now, none)
  else match L.getLast? with
    | some e => (bump (cut L e.c e.p) c p f r now, some e)
    | none => (bump L c p f r now, none)

def goneV : Option En → Value
  | some e => .tuple #[.agg #[.int .i64 e.c, .int .u32 e.p], .bool true]
  | none => .tuple #[.agg #[.int .i64 0, .int .u32 0], .bool false]

theorem put_ok {b m : Nat} {sl now : Int} {L : List En} {c p f r : Int} {w : World} (h : TlbIs w b m sl now L) (ht : TagOk c p) (hsl : 1 ≤ sl) (hn : now < 999999999) :
    Calls Try.prog 14 #[.pointer (some ⟨b, 0, none⟩), .agg #[.int .i64 c, .int .u32 p], .agg #[.int .u32 f, .int .u8 r]] w fun e w' => e = .returned (goneV (putL L sl c p f r now).2) ∧ TlbIs w' b m sl (now + 1) (putL L sl c p f r now).1 ∧ Chg (fun i => i = b ∨ i = m) w w' := by
  rcases hit_is (L := L) (c := c) (p := p) with ⟨e0, he⟩ | he
  · have : putL L sl c p f r now = (bump L c p f r now, none) := by simp [putL, he]
    rw [this]
    exact put_hit h ht he hn
  · by_cases hroom : (L.length : Int) < sl
    · have : putL L sl c p f r now = (bump L c p f r now, none) := by simp [putL, he, hroom]
      rw [this]
      exact put_room h ht he hroom hn
    · refine (put_full h ht he (by have := h.few; omega) hsl hn).mono ?_
      rintro e w' ⟨e0, h0, rfl, h1, h2⟩
      have : putL L sl c p f r now = (bump (cut L e0.c e0.p) c p f r now, some e0) := by simp [putL, he, hroom, h0]
      rw [this]
      exact ⟨rfl, h1, h2⟩

/-- What Look makes of a list, and tells. -/
def lookL (L : List En) (c p now : Int) : List En :=
  match hitE L c p with
  | some e => bump L c p e.f e.r now
  | none => L
def lookV (L : List En) (c p : Int) : Value :=
  match hitE L c p with
  | some e => .tuple #[.agg #[.int .u32 e.f, .int .u8 e.r], .bool true]
  | none => .tuple #[.agg #[.int .u32 0, .int .u8 0], .bool false]
def lookNow (L : List En) (c p now : Int) : Int := if (hitE L c p).isSome then now + 1 else now

theorem look_ok {b m : Nat} {sl now : Int} {L : List En} {c p : Int} {w : World} (h : TlbIs w b m sl now L) (ht : TagOk c p) (hn : now < 999999999) :
    Calls Try.prog 13 #[.pointer (some ⟨b, 0, none⟩), .agg #[.int .i64 c, .int .u32 p]] w fun e w' => e = .returned (lookV L c p) ∧ TlbIs w' b m sl (lookNow L c p now) (lookL L c p now) ∧ Chg (fun i => i = b ∨ i = m) w w' := by
  rcases hit_is (L := L) (c := c) (p := p) with ⟨e0, he⟩ | he
  · have e1 : lookV L c p = .tuple #[.agg #[.int .u32 e0.f, .int .u8 e0.r], .bool true] := by simp [lookV, he]
    have e2 : lookL L c p now = bump L c p e0.f e0.r now := by simp [lookL, he]
    have e3 : lookNow L c p now = now + 1 := by simp [lookNow, he]
    rw [e1, e2, e3]
    exact look_yes h ht he hn
  · have e1 : lookV L c p = .tuple #[.agg #[.int .u32 0, .int .u8 0], .bool false] := by simp [lookV, he]
    have e2 : lookL L c p now = L := by simp [lookL, he]
    have e3 : lookNow L c p now = now := by simp [lookNow, he]
    rw [e1, e2, e3]
    refine (look_no h ht he).mono ?_
    rintro e w' ⟨rfl, h1⟩
    exact ⟨rfl, h.frame h1 (by simp) (by simp), h1.mono (fun _ _ h => h.elim)⟩
end Go.Proofs.Ytoglgkplddlemaa
