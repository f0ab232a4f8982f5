/- The Book of the laws: how it lies in memory; contract of owns. No condition. -/
import Derived.Test.YtfihpiommicdbaaDoorWirBA
namespace Go.Proofs.YtfihpiommicdbaaDoor
open Go.RowKit Go.Cl
set_option linter.unusedVariables false
set_option linter.unusedSimpArgs false
attribute [local go_sem] lt_add_one' blk_alloc_past blk_alloc_at blk_drew blk_setCell_ne

/-- A list that came out, its copy, its bytes. -/
abbrev Ent := Value × Value × List Int
/-- What a book has. -/
structure BS where
  L : List (Value × Int)
  held : List Ent
  fresh : List Ent
def rowsOf (base : Nat) (l : List Ent) : List Thing := l.flatMap fun x => [rowT base 5 1 x.1 x.2.2.length (u8s x.2.2), rowT base 5 1 x.2.1 x.2.2.length (u8s x.2.2)]
/-- Lists full of marks. -/
def markT (D : Nat → Prop) (L : List (Value × Int)) : Thing :=
  ⟨fun w => (∀ e ∈ L, (∃ n, BytesIs w e.1 (List.replicate n e.2)) ∧ ∀ g, e.1.ownBlock = some g → D g) ∧ ∀ i, D i → i < w.heap.size, D, fun h hc hs => ⟨fun e he => by
    obtain ⟨⟨n, hn⟩, hd⟩ := h.1 e he
    exact ⟨⟨n, hn.frameO hc fun g hg => hs g (hd g hg)⟩, hd⟩, fun i hi => Nat.lt_of_lt_of_le (h.2 i hi) hc.size⟩, fun h hi => h.2 _ hi⟩
def core (base B : Nat) (lv mv fv wv hv tv : Value) (D : Nat → Prop) (s : BS) : List Thing :=
  [blkT B (.cells #[lv, mv, fv, wv, hv, tv] 43 (0, 0)), rowT base 24 1 lv s.L.length (s.L.map (·.1)), rowT base 5 1 mv s.L.length (u8s (s.L.map (·.2))),
   rowT base 24 1 fv s.fresh.length (s.fresh.map (·.1)), rowT base 24 1 wv s.fresh.length (s.fresh.map (·.2.1)), rowT base 24 1 hv s.held.length (s.held.map (·.1)), rowT base 24 1 tv s.held.length (s.held.map (·.2.1)), markT D s.L]
/-- All lists have few bytes. -/
structure BS.Small (s : BS) : Prop where
  l : s.L.length + 2 * s.held.length + 2 * s.fresh.length ≤ 1000000
  e : ∀ x ∈ s.held ++ s.fresh, x.2.2.length ≤ 140737488000000 ∧ Bytes x.2.2
  m : ∀ x ∈ s.L, 0 ≤ x.2 ∧ x.2 ≤ 255
def BookAt (base : Nat) (w : World) (B : Nat) (s : BS) (R : List Thing) : Prop :=
  ∃ lv mv fv wv hv tv D, Sep base w (core base B lv mv fv wv hv tv D s ++ (rowsOf base s.held ++ (rowsOf base s.fresh ++ R)))

set_option maxRecDepth 100000 in
theorem info24b : ∃ i, Tryd.prog.info? 24 = some i ∧ i.zero = some (.slice none 0 0) ∧ i.size = 1 ∧ i.bytes = 24 := ⟨_, rfl, by kernel_rfl, by kernel_rfl, by kernel_rfl⟩
theorem list_one (l : List Value) (h : ∀ v ∈ l, ∃ a n c, v = Value.slice a n c) : ∀ u ∈ l, u.oneCell' = true := fun u hu => by
  obtain ⟨_, _, _, rfl⟩ := h u hu
  rfl

/-- What append does to a row among others, and what has turned. -/
theorem _root_.Go.Cl.Sep.app2 {base : Nat} {w w' : World} {e : TypeId} {size n n' : Nat} {v v' : Value} {xs xs' : List Value} (A : List Thing) {B : List Thing} (h : Sep base w (A ++ rowT base e size v n xs :: B)) (hb : base ≤ w.heap.size) (hown : w'.ownsRow base e size v' n' xs') (hg : w.grownBy w' v.ownBlock) (hl : v'.ownBlock = v.ownBlock ∨ v'.ownBlock = some w.heap.size) : Sep base w' (A ++ rowT base e size v' n' xs' :: B) ∧ Chg (fun i => base ≤ i) w w' :=
  ⟨h.app A hb hown hg hl, (Chg.of_grown hg).mono fun i _ hi => (h.old (t := rowT base e size v n xs) (by simp) hi).1⟩
/-- A cell of a block of its own is written. -/
theorem _root_.Go.Cl.Sep.cell {base : Nat} {w : World} {B i : Nat} {cs cs' : Array Value} {t : TypeId} {x : Value} {L : List Thing} (h : Sep base w (blkT B (.cells cs t (0, 0)) :: L)) (hb : base ≤ w.heap.size) (he : objSet i x (.cells cs t (0, 0)) = .cells cs' t (0, 0)) : Sep base (w.setCell ⟨B, i, none⟩ x) (blkT B (.cells cs' t (0, 0)) :: L) :=
  h.put hb ((Chg.refl (fun i => i = B) w).setCell (p := ⟨B, i, none⟩) (fun _ => rfl) _) (fun _ _ h => h) (show blk _ B = _ by
    rw [blk_setCell_eq, show blk w B = some (.cells cs t (0, 0)) from h.head]
    simp only [Option.map_some, he]) fun _ h => .inl h

set_option maxHeartbeats 4000000 in
set_option maxRecDepth 100000 in
theorem owns_ok {w : World} {base B : Nat} {s : BS} {v : Value} {xs : List Int} {R : List Thing} (h : BookAt base w B s (rowT base 5 1 v xs.length (u8s xs) :: R)) (hbs : base ≤ w.heap.size) (hx : Bytes xs) (hl : xs.length ≤ 140737488000000) (hs : s.fresh.length ≤ 1000000) :
    Calls Tryd.prog 62 #[.pointer (some ⟨B, 0, none⟩), v] w fun e w' => e = .returned (.tuple #[]) ∧ ∃ c, BookAt base w' B { s with fresh := s.fresh ++ [(v, c, xs)] } R ∧ Chg (fun i => base ≤ i) w w' := by
  obtain ⟨lv, mv, fv, wv, hv, tv, D, h⟩ := h
  have hrow : w.ownsRow base 5 1 v xs.length (u8s xs) := h.all (rowT base 5 1 v xs.length (u8s xs)) (by simp)
  have hB : blk w B = some (.cells #[lv, mv, fv, wv, hv, tv] 43 (0, 0)) := h.all (blkT B _) (by simp [core])
  have hBb : base ≤ B := h.above (blkT B (.cells #[lv, mv, fv, wv, hv, tv] 43 (0, 0))) (by simp [core]) B rfl
  have HS := Lib.hid h
  have HX := Lib.hid hx
  have HL := Lib.hid hl
  have HBS := Lib.hid hbs
  have HBB := Lib.hid hBb
  have HC := Lib.hid hs
  obtain ⟨i0, hi, hz0, hz1, hz2⟩ := info5z
  obtain ⟨i1, ji, jz0, jz1, jz2⟩ := info24b
  have HBY := Lib.hid (row_bytes hrow hx)
  obtain ⟨ov, cv, rfl, hsrc, hc1, hc2, hc3⟩ := src_of_row hrow (fun u hu => by obtain ⟨_, _, rfl⟩ := List.mem_map.1 hu; rfl)
  have HSRC := Lib.hid hsrc
  have HC3 := Lib.hid hc3
  have HN := Lib.hid (nil_row w base 5)
  have HB := Lib.hid hB
  clear h hx hl hbs hrow hB hsrc hc1 hc2 hc3 hBb hs
  go_enter Tryd.func62, Tryd.ntmps62
  go_upto_region 2 with (at_builtin; refine wpList_app rfl _ _ 24 rfl base 5 i0 (.int .u8 0) 1 1 Tryd.underlying24 hi hz0 hz1 hz2 rfl (by decide) (.slice none 0 0) 0 [] (by rfl) HN.out ov xs.length cv _ (by rfl) HSRC.out HC3.out (by have := HL.out; unfold maxLen; omega) (by have := HL.out; omega) HBS.out ?_; intro c w1 hown hgrow hlie; have HO := Lib.hid (show w1.ownsRow base 5 1 c xs.length (u8s xs) by simpa using hown); have HC1 := Lib.hid (show Chg (fun _ => False) w w1 from (Chg.of_grown hgrow).mono fun _ _ h => by simp [Value.ownBlock] at h); have HLie := Lib.hid hlie; clear hown hgrow hlie; obtain ⟨oc, cc, rfl, _⟩ := row_form HO.out)
  have h0 : Sep base w ((core base B lv mv fv wv hv tv D s ++ (rowsOf base s.held ++ (rowsOf base s.fresh ++ [rowT base 5 1 (.slice ov xs.length cv) xs.length (u8s xs)]))) ++ R) := by simpa [List.append_assoc] using HS.out
  have S1 := h0.pushAt (t' := rowT base 5 1 (.slice oc xs.length cc) xs.length (u8s xs)) _ HBS.out HC1.out HO.out (fun i hi => by
    have hi : some i = (Value.slice oc xs.length cc).ownBlock := hi
    rcases HLie.out with hl | hl
    · rw [hl] at hi; cases hi
    · rw [hl] at hi; cases hi; exact Nat.le_refl _)
  obtain ⟨X, hX⟩ : ∃ X, X = rowsOf base s.held ++ (rowsOf base s.fresh ++ (rowT base 5 1 (.slice ov xs.length cv) xs.length (u8s xs) :: rowT base 5 1 (.slice oc xs.length cc) xs.length (u8s xs) :: R)) := ⟨_, rfl⟩
  have S2 : Sep base w1 (core base B lv mv fv wv hv tv D s ++ X) := by rw [hX]; simpa [List.append_assoc] using S1
  unfold core at S2
  simp only [List.cons_append, List.nil_append] at S2
  have HX1 := Lib.hid hX
  have HS2 := Lib.hid S2
  have HBW := Lib.hid (Nat.le_trans HBS.out HC1.out.size)
  have hB1 := S2.head
  have y2 := cell_of_blk hB1 2
  have hrf := S2.at [_, _, _]
  have HRF := Lib.hid (show w1.ownsRow base 24 1 fv s.fresh.length (s.fresh.map (·.1)) from hrf)
  obtain ⟨oF, cF, rfl, _⟩ := row_form hrf
  clear hrf S2 hX h0 S1 hB1
  have HCW1 := Lib.hid (show Chg (fun i => base ≤ i) w w1 from HC1.out.mono fun _ _ h => h.elim)
  go_upto_region 3 with (at_builtin; refine wpList_app rfl _ _ 22 rfl base 24 i1 (.slice none 0 0) 1 24 Tryd.underlying22 ji jz0 jz1 jz2 rfl (by decide) _ s.fresh.length (s.fresh.map (·.1)) (by rfl) (row_frame HRF.out ((Chg.refl (fun _ => False) w1).alloc _) fun _ _ => id) _ 1 1 [.slice ov xs.length cv] (by rfl) (SrcIs.some (by rfl) (by simp [Value.oneCell']) (World.news_of_block (heap_alloc_new _ _))) (fun h => by cases h) (by have := HC.out; unfold maxLen; omega) (by have := HC.out; omega) (by have := HBW.out; simp; omega) ?_; intro v3 w3 hown hgrow hlie; have S3 := Sep.app2 [_, _, _] (HS2.out.frame ((Chg.refl (fun _ => False) w1).alloc _)) (by have := HBW.out; simp; omega) hown hgrow hlie; have hB3 := S3.1.head; have y3 := cell_of_blk hB3 2; have z3 := frozen_of_blk hB3 2; have HS3 := Lib.hid S3.1; have HC3' := Lib.hid (((Chg.refl (fun i => base ≤ i) w1).alloc _).trans S3.2 fun _ _ h => h); obtain ⟨o3, c3, rfl, _⟩ := row_form hown; clear hown hgrow hlie S3 hB3)
  have S4 := HS3.out.cell (i := 2) (x := .slice o3 (s.fresh.length + 1) c3) (by have := HBW.out; have := HC3'.out.size; omega) (by simp [objSet]; rfl)
  obtain ⟨w4, hw4⟩ : ∃ w4, w4 = w3.setCell ⟨B, 2, none⟩ (.slice o3 (s.fresh.length + 1) c3) := ⟨_, rfl⟩
  have HC4 := Lib.hid (show Chg (fun i => base ≤ i) w1 w4 by rw [hw4]; exact HC3'.out.setCell (p := ⟨B, 2, none⟩) (fun _ => HBB.out) _)
  rw [← hw4] at S4 ⊢
  clear hw4 y3 z3 y2
  have hB4 := S4.head
  have yb4 := blk_lt hB4
  have y4 := cell_of_blk hB4 3
  have HS4 := Lib.hid S4
  have HBW4 := Lib.hid (Nat.le_trans HBW.out HC4.out.size)
  have hrw := S4.at [_, _, _, _]
  have HRW := Lib.hid (show w4.ownsRow base 24 1 wv s.fresh.length (s.fresh.map (·.2.1)) from hrw)
  obtain ⟨oW, cW, rfl, _⟩ := row_form hrw
  clear S4 hB4 hrw
  go_wp2_with (at_builtin; refine wpList_app rfl _ _ 22 rfl base 24 i1 (.slice none 0 0) 1 24 Tryd.underlying22 ji jz0 jz1 jz2 rfl (by decide) _ s.fresh.length (s.fresh.map (·.2.1)) (by rfl) (row_frame HRW.out ((Chg.refl (fun _ => False) w4).alloc _) fun _ _ => id) _ 1 1 [.slice oc xs.length cc] (by rfl) (SrcIs.some (by rfl) (by simp [Value.oneCell']) (World.news_of_block (heap_alloc_new _ _))) (fun h => by cases h) (by have := HC.out; unfold maxLen; omega) (by have := HC.out; omega) (by have := HBW4.out; simp; omega) ?_; intro v5 w5 hown hgrow hlie; have S5 := Sep.app2 [_, _, _, _] (HS4.out.frame ((Chg.refl (fun _ => False) w4).alloc _)) (by have := HBW4.out; simp; omega) hown hgrow hlie; have hB5 := S5.1.head; have y5 := cell_of_blk hB5 3; have z5 := frozen_of_blk hB5 3; have HS5 := Lib.hid S5.1; have HC5 := Lib.hid (((Chg.refl (fun i => base ≤ i) w4).alloc _).trans S5.2 fun _ _ h => h); obtain ⟨o5, c5, rfl, _⟩ := row_form hown; clear hown hgrow hlie S5 hB5)
  go_end0
  refine ⟨rfl, ⟨Value.slice oc xs.length cc, lv, mv, .slice o3 (s.fresh.length + 1) c3, .slice o5 (s.fresh.length + 1) c5, hv, tv, D, ?_⟩, (HCW1.out.trans HC4.out fun _ _ h => h).trans (HC5.out.setCell (p := ⟨B, 3, none⟩) (fun _ => HBB.out) _) fun _ _ h => h⟩
  have S6 := HS5.out.cell (i := 3) (x := .slice o5 (s.fresh.length + 1) c5) (by have := HBW4.out; have := HC5.out.size; omega) (by simp [objSet]; rfl)
  rw [HX1.out] at S6
  unfold core
  simpa [rowsOf, List.append_assoc] using S6
end Go.Proofs.YtfihpiommicdbaaDoor
