/- WireSums: Sum of any parts is the document's sum of all that they hold; they stay: where the parts hold together not more than the second form's bulk. No condition but the table's place. -/
import Derived.Test.YtfihpiommicdbaaDoorWirK
import Derived.Test.YtfihpiommicdbaaDoorWirL
import Derived.Test.YtfihpiommicdbaaDoorWirV
import Derived.Test.YtfihpiommicdbaaDoorLibSep
import Derived.Deep.RegionLaw
import Derived.StillTailTactics
namespace Go.Proofs.YtfihpiommicdbaaDoor
open Go.RowKit Go.Cl Sgl
set_option linter.unusedVariables false
set_option linter.unusedSimpArgs false
attribute [local go_sem] lt_add_one' blk_alloc_past blk_alloc_at blk_drew blk_setCell_ne

theorem row_lower {w : World} {base base' : Nat} {e : TypeId} {size : Nat} {v : Value} {n : Nat} {xs : List Value} (h : w.ownsRow base e size v n xs) (hb : base' ≤ base) : w.ownsRow base' e size v n xs := by
  obtain ⟨h1, h2 | ⟨g, cap, cur, hv, hg, r⟩⟩ := h
  · exact ⟨h1, .inl h2⟩
  · exact ⟨h1, .inr ⟨g, cap, cur, hv, Nat.le_trans hb hg, r⟩⟩
set_option maxRecDepth 100000 in
theorem info24z : ∃ i, Tryd.prog.info? 24 = some i ∧ i.zero = some (.slice none 0 0) ∧ i.size = 1 ∧ i.bytes = 24 := ⟨_, rfl, by kernel_rfl, by kernel_rfl, by kernel_rfl⟩

/-- What is lent: the bytes, the block, its room. -/
structure It where
  x : List Int
  g : Nat
  cap : Nat
def It.full (it : It) : Value := .slice (some ⟨it.g, 0, none⟩) (it.x.length + 2) it.cap
def It.own (it : It) : Value := .slice (some ⟨it.g, 0, none⟩) it.x.length it.cap
def It.th (base : Nat) (it : It) : Thing := rowT base 5 1 it.full (it.x.length + 2) (u8s (marked it.x))
def It.ov (base : Nat) (it : It) : Thing := rowT base 5 1 it.full (it.x.length + 2) (u8s (List.replicate (it.x.length + 2) 238))
def fulls (its : List It) : List Value := its.map It.full
def owns (its : List It) : List Value := its.map It.own

/-- Where the first loop stands. -/
structure S1 (w wr : World) (ps : List (List Int)) (k : Nat) (vF vO vA : Value) (its : List It) : Prop where
  xs : its.map It.x = ps.take k
  sep : Go.Cl.Sep w.heap.size wr ([rowT w.heap.size 24 1 vF its.length (fulls its), rowT w.heap.size 24 1 vO its.length (owns its), rowT w.heap.size 5 1 vA (catTo ps k).length (u8s (catTo ps k))] ++ its.map (It.th w.heap.size))
  chg : Chg (fun _ => False) w wr

theorem sep_chg {w w1 w2 : World} {A B : List Thing} {e : TypeId} {size n : Nat} {v : Value} {xs : List Value} (h : Go.Cl.Sep w.heap.size w1 (A ++ rowT w.heap.size e size v n xs :: B)) (c : Chg (fun _ => False) w w1) (hg : w1.grownBy w2 v.ownBlock) : Chg (fun _ => False) w w2 :=
  c.trans (Chg.of_grown hg) fun i hi hx => by
    have := (h.old (t := rowT w.heap.size e size v n xs) (by simp) hx).1
    omega

theorem S1.len {w wr : World} {ps : List (List Int)} {k : Nat} {vF vO vA : Value} {its : List It} (h : S1 w wr ps k vF vO vA its) (hk : k ≤ ps.length) : its.length = k := by
  have := congrArg List.length h.xs
  simpa [Nat.min_eq_left hk] using this

/-- Rows of bytes behind a row of slices are parts. -/
theorem parts_rows {w : World} {base gO cap n : Nat} {cs : List Value} {its : List It} {fc f : It → List Int} (hO : w.ownsRow base 24 1 (.slice (some ⟨gO, 0, none⟩) n cap) n cs) (hcs : ∀ (i : Nat) (it : It), its[i]? = some it → cs[i]? = some it.own)
    (hrow : ∀ it ∈ its, w.ownsRow base 5 1 it.full (it.x.length + 2) (u8s (fc it))) (hf : ∀ it ∈ its, (fc it).take it.x.length = f it ∧ (f it).length = it.x.length ∧ Bytes (f it)) : PartsAre w (some ⟨gO, 0, none⟩) (its.map f) := by
  intro i x hx
  rw [List.getElem?_map] at hx
  cases hit : its[i]? with
  | none => rw [hit] at hx; simp at hx
  | some it =>
    rw [hit] at hx
    simp at hx
    subst hx
    have hm := List.mem_of_getElem? hit
    have hn : 0 < n := by
      have h1 := hO.1
      have h2 := (List.getElem?_eq_some_iff.1 (hcs i it hit)).1
      omega
    obtain ⟨g', cap', cur, hv, _, _, _, _, _, hat⟩ := row_at hO hn
    simp only [Value.slice.injEq, Option.some.injEq, Addr.mk.injEq, true_and, and_true] at hv
    obtain ⟨rfl, rfl⟩ := hv
    obtain ⟨h1, h2, h3⟩ := hf it hm
    refine ⟨_, it.own, rfl, by rw [addr_add, Nat.zero_add]; exact hat i _ (hcs i it hit), ?_⟩
    have hr := row_cut (hrow it hm) (show it.x.length ≤ it.x.length + 2 by omega)
    have e : (u8s (fc it)).take (it.x.length * 1) = u8s (f it) := by rw [← h1, Nat.mul_one]; unfold u8s; rw [List.map_take]
    rw [e] at hr
    exact row_bytes hr h3
def overs (its : List It) : List (List Int) := its.map fun it => List.replicate it.x.length 238
theorem marked_take (x : List Int) : (marked x).take x.length = x := by simp [marked]
theorem catTo_le (ps : List (List Int)) (k : Nat) : (catTo ps k).length ≤ (cat ps).length := by
  unfold catTo cat
  have : ps.flatten = (ps.take k).flatten ++ (ps.drop k).flatten := by rw [← List.flatten_append, List.take_append_drop]
  rw [this, List.length_append]
  omega

set_option maxHeartbeats 4000000 in
set_option maxRecDepth 100000 in
theorem sums_walk {w : World} (hT : TableAt w) {oa : Option Addr} {ps : List (List Int)} {c : Nat} (hp : PartsAre w oa ps) (hc : ps.length ≤ c) (hsm : ps.length ≤ 1048576) (hsm2 : (cat ps).length ≤ 1048576) :
    Calls Tryd.prog 3 #[.slice oa ps.length c] w fun e w' => e = .returned (.bool true) ∧ Chg (fun _ => False) w w' := by
  have HK := Lib.hid (known_ok hT)
  have HP := Lib.hid hp
  have HT := Lib.hid hT
  have HSM := Lib.hid hsm2
  obtain ⟨i0, hi, hz0, hz1, hz2⟩ := info5z
  obtain ⟨j0, hj, hy0, hy1, hy2⟩ := info24z
  clear hp hT hsm2
  go_enter Tryd.func3, Tryd.ntmps3
  go_wp2_with fail
  refine HK.out.mono ?_
  rintro e w1 ⟨rfl, hc1⟩
  have HC1 := Lib.hid hc1
  clear hc1 HK
  go_wp2_with fail
  go_loopw [4, 5, 6, 7] (fun s4 s5 s6 s7 wr => ∃ (k : Nat) (its : List It) (vF vO vA : Value), k ≤ ps.length ∧ s7 = .int .i64 k ∧ vF = s5 ∧ vO = s4 ∧ vA = s6 ∧ S1 w wr ps k vF vO vA its) (fun _ _ _ i _ => ps.length - (intOf i).toNat)
  case atStart => exact ⟨0, [], _, _, _, by omega, rfl, rfl, rfl, rfl, rfl, (((Go.Cl.Sep.nil _ _).nilRow 5 1).nilRow 24 1).nilRow 24 1, HC1.out⟩
  case round =>
    obtain ⟨k, its, vF, vO, vA, hk, rfl, rfl, rfl, rfl, hs⟩ := hrel
    have HS := Lib.hid hs
    have hil := hs.len hk
    by_cases hlt : k < ps.length
    · obtain ⟨g0, o0, rfl, hat⟩ := HP.out.at (by omega)
      obtain ⟨v, hv, hb⟩ := hat k _ (List.getElem?_eq_getElem hlt)
      have HN := Lib.hid (catTo_next (List.getElem?_eq_getElem hlt))
      have HXS := Lib.hid (List.take_succ_eq_append_getElem hlt)
      have hl1 := catTo_le ps (k + 1)
      rw [HN.out, List.length_append] at hl1
      have HL := Lib.hid (Nat.le_trans hl1 HSM.out)
      generalize ps[k] = x at *
      have hcell := cell_frame hs.chg (fun _ _ => id) hv
      have hbf := hb.frame hs.chg fun _ _ => id
      have hb0 := hb
      have HBF := Lib.hid hbf
      have HLT := Lib.hid (lent_ok hbf (by have := HL.out; omega))
      have HBY := Lib.hid hb.byte
      obtain ⟨ob, cb, rfl, hcb1, hcb2, hcb3, _⟩ := hb
      have HC0 := Lib.hid hcb3
      unfold maxLen at hcb2
      have HBS := Lib.hid hs.chg.size
      have HX0 := Lib.hid hb0
      have hv0 := hv
      have hs0 := Lib.hid hs.chg
      have HIL := Lib.hid hil
      clear hat hl1 hbf hv hs hcb3 hil hb0
      go_wp2_with fail
      refine HLT.out.mono ?_
      rintro e w2 ⟨v1, rfl, hr1, hc2⟩
      have hr1' := row_lower hr1 HBS.out
      obtain ⟨g1, cap1, cur1, rfl, hg1, hg2, hg3, _⟩ := row_at hr1 (by omega)
      have SA := Lib.hid (show Go.Cl.Sep w.heap.size w2 ([rowT w.heap.size 24 1 vF its.length (fulls its), rowT w.heap.size 24 1 vO its.length (owns its), rowT w.heap.size 5 1 vA (catTo ps k).length (u8s (catTo ps k))] ++ (its ++ [It.mk x g1 cap1]).map (It.th w.heap.size)) by
        rw [List.map_append, ← List.append_assoc]
        exact Go.Cl.Sep.pushAt _ (B := []) (by simpa using HS.out.sep) HBS.out hc2 hr1' (fun i hi => by cases (show some i = some g1 from hi); exact hg1))
      have HSZ2 := Lib.hid (Nat.le_trans HBS.out hc2.size)
      have HC2 := Lib.hid (hs0.out.trans hc2 fun _ _ => id)
      have HX2 := Lib.hid (HBF.out.frame hc2 fun _ _ => id)
      have hcell2 := cell_frame hc2 (fun _ _ => id) hcell
      obtain ⟨oF, cF, rfl, -⟩ := row_form (SA.out.at [])
      obtain ⟨oO, cO, rfl, -⟩ := row_form (SA.out.at [_])
      obtain ⟨oA, cA, rfl, -⟩ := row_form (SA.out.at [_, _])
      unfold maxLen at hg3
      clear hr1 hr1' hc2 hcell HLT
      have RF := Lib.hid (row_frame (SA.out.at []) ((Chg.refl (fun _ => False) w2).alloc (.cells #[.slice (some ⟨g1, 0, none⟩) (x.length + 2) cap1] 24 (0, 0))) fun _ _ => id)
      go_upto_region 10 with (at_builtin; refine wpList_app rfl _ _ 22 rfl w.heap.size 24 j0 (.slice none 0 0) 1 24 Tryd.underlying22 hj hy0 hy1 hy2 rfl (by decide) (.slice oF its.length cF) its.length (fulls its) (by rfl) RF.out _ 1 1 [.slice (some ⟨g1, 0, none⟩) (x.length + 2) cap1] (by rfl) (SrcIs.some (by rfl) (by simp [Value.oneCell']) (World.news_of_block (heap_alloc_new _ _))) (fun h => by cases h) (by have := HIL.out; unfold maxLen; omega) (by have := HIL.out; omega) (by have := HSZ2.out; simp; omega) ?_; intro v3 w3 hown hgrow hlie)
      have CA2 := Lib.hid (HC2.out.alloc (.cells #[.slice (some ⟨g1, 0, none⟩) (x.length + 2) cap1] 24 (0, 0)))
      have SB0 := SA.out.frame ((Chg.refl (fun _ => False) w2).alloc (.cells #[.slice (some ⟨g1, 0, none⟩) (x.length + 2) cap1] 24 (0, 0)))
      have HC3 := Lib.hid (sep_chg (A := []) SB0 CA2.out hgrow)
      have hc23 := (Chg.refl (fun _ => False) w2).alloc (.cells #[.slice (some ⟨g1, 0, none⟩) (x.length + 2) cap1] 24 (0, 0))
      have SB := Lib.hid (Go.Cl.Sep.app [] SB0 CA2.out.size hown hgrow hlie)
      clear hown hgrow hlie SB0 hc23 RF SA
      have RO := Lib.hid (row_frame (SB.out.at [_]) ((Chg.refl (fun _ => False) w3).alloc (.cells #[.slice (some ⟨g1, 0, none⟩) x.length cap1] 24 (0, 0))) fun _ _ => id)
      go_upto_region 11 with (at_builtin; refine wpList_app rfl _ _ 22 rfl w.heap.size 24 j0 (.slice none 0 0) 1 24 Tryd.underlying22 hj hy0 hy1 hy2 rfl (by decide) (.slice oO its.length cO) its.length (owns its) (by rfl) RO.out _ 1 1 [.slice (some ⟨g1, 0, none⟩) x.length cap1] (by rfl) (SrcIs.some (by rfl) (by simp [Value.oneCell']) (World.news_of_block (heap_alloc_new _ _))) (fun h => by cases h) (by have := HIL.out; unfold maxLen; omega) (by have := HIL.out; omega) (by have := HC3.out.size; simp; omega) ?_; intro v4 w4 hown hgrow hlie)
      have CA3 := Lib.hid (HC3.out.alloc (.cells #[.slice (some ⟨g1, 0, none⟩) x.length cap1] 24 (0, 0)))
      have SC0 := SB.out.frame ((Chg.refl (fun _ => False) w3).alloc (.cells #[.slice (some ⟨g1, 0, none⟩) x.length cap1] 24 (0, 0)))
      have HC4 := Lib.hid (sep_chg (A := [_]) SC0 CA3.out hgrow)
      have SC := Lib.hid (Go.Cl.Sep.app [_] SC0 CA3.out.size hown hgrow hlie)
      clear hown hgrow hlie SC0 RO SB
      have HX4 := Lib.hid ((HX0.out.frame HC4.out fun _ _ => id).src)
      have hcell4 := cell_frame HC4.out (fun _ _ => id) hv0
      go_wp2_with (at_builtin; refine wpList_app rfl _ _ 24 rfl w.heap.size 5 i0 (.int .u8 0) 1 1 Tryd.underlying24 hi hz0 hz1 hz2 rfl (by decide) (.slice oA (catTo ps k).length cA) (catTo ps k).length (u8s (catTo ps k)) (by rfl) (SC.out.at [_, _]) ob x.length cb (u8s x) (by rfl) HX4.out HC0.out (by have := HL.out; unfold maxLen; omega) (by have := HL.out; omega) HC4.out.size ?_; intro v5 w5 hown hgrow hlie)
      have HC5 := Lib.hid (sep_chg (A := [_, _]) SC.out HC4.out hgrow)
      have SD := Go.Cl.Sep.app [_, _] SC.out HC4.out.size hown hgrow hlie
      have E := Lib.hid (show S1 w w5 ps (k + 1) v3 v4 v5 (its ++ [It.mk x g1 cap1]) from ⟨by rw [List.map_append, HS.out.xs, HXS.out]; rfl, by
        have e1 : (its ++ [It.mk x g1 cap1]).length = its.length + 1 := by simp
        have e2 : fulls (its ++ [It.mk x g1 cap1]) = fulls its ++ [.slice (some ⟨g1, 0, none⟩) (x.length + 2) cap1] := by simp [fulls, It.full]
        have e3 : owns (its ++ [It.mk x g1 cap1]) = owns its ++ [.slice (some ⟨g1, 0, none⟩) x.length cap1] := by simp [owns, It.own]
        have e4 : u8s (catTo ps (k + 1)) = u8s (catTo ps k) ++ u8s x := by rw [HN.out]; simp [u8s]
        have e5 : (catTo ps (k + 1)).length = (catTo ps k).length + x.length := by rw [HN.out, List.length_append]
        rw [e1, e2, e3, e4, e5]
        exact SD, HC5.out⟩)
      clear hown hgrow hlie SD
      go_roundw
      case rel => exact ⟨k + 1, _, _, _, _, by omega, by go_num, rfl, rfl, rfl, E.out⟩
      case measure => simp [intOf]; omega
    · have hke : k = ps.length := by omega
      subst hke
      have hxs : its.map It.x = ps := by rw [hs.xs, List.take_length]
      have HXS := Lib.hid hxs
      have HIL := Lib.hid hil
      have HC := Lib.hid hs.chg
      have SA := Lib.hid (show Go.Cl.Sep w.heap.size (wr.alloc (.cells #[.int .u8 119] 5 (0, 0))) ([rowT w.heap.size 24 1 vF its.length (fulls its), rowT w.heap.size 24 1 vO its.length (owns its), rowT w.heap.size 5 1 vA (catTo ps ps.length).length (u8s (catTo ps ps.length))] ++ (its.map (It.th w.heap.size) ++ [blkT wr.heap.size (.cells #[.int .u8 119] 5 (0, 0))])) by
        rw [← List.append_assoc]
        exact Go.Cl.Sep.pushAt _ (B := []) (by simpa using hs.sep) HC.out.size ((Chg.refl _ _).alloc _) (blk_alloc_at _ _ _ rfl) (fun i hi => by cases (show i = wr.heap.size from hi); exact Nat.le_refl _))
      obtain ⟨oO, cO, rfl, -⟩ := row_form (SA.out.at [_])
      have CA := Lib.hid ((HC.out.alloc (.cells #[.int .u8 119] 5 (0, 0))).alloc (.cells #[.slice (some ⟨wr.heap.size, 0, none⟩) 1 1] 24 (0, 0)))
      have SB := Lib.hid (SA.out.frame ((Chg.refl (fun _ => False) (wr.alloc (.cells #[.int .u8 119] 5 (0, 0)))).alloc (.cells #[.slice (some ⟨wr.heap.size, 0, none⟩) 1 1] 24 (0, 0))))
      clear hs hxs hil SA
      go_upto_region 13 with (at_builtin; refine wpList_app rfl _ _ 22 rfl w.heap.size 24 j0 (.slice none 0 0) 1 24 Tryd.underlying22 hj hy0 hy1 hy2 rfl (by decide) (.slice oO its.length cO) its.length (owns its) (by rfl) (SB.out.at [_]) _ 1 1 [.slice (some ⟨wr.heap.size, 0, none⟩) 1 1] (by rfl) (SrcIs.some (by rfl) (by simp [Value.oneCell']) (World.news_of_block (show ((wr.alloc (.cells #[.int .u8 119] 5 (0, 0))).alloc (.cells #[.slice (some ⟨wr.heap.size, 0, none⟩) 1 1] 24 (0, 0))).heap[wr.heap.size + 1]? = _ from blk_alloc_at _ _ _ (by simp)))) (fun h => by cases h) (by have := HIL.out; unfold maxLen; omega) (by have := HIL.out; omega) CA.out.size ?_; intro v4 w4 hown hgrow hlie)
      have HC4 := Lib.hid (sep_chg (A := [_]) SB.out CA.out hgrow)
      have sc := Go.Cl.Sep.app [_] SB.out CA.out.size hown hgrow hlie
      obtain ⟨B1, hB1⟩ : ∃ B1, B1 = wr.heap.size := ⟨_, rfl⟩
      rw [← hB1] at sc hown ⊢
      obtain ⟨gO, capO, curO, rfl, hgO1, hgO2, hgO3, _, _, hatO⟩ := row_at hown (by omega)
      unfold maxLen at hgO3
      have hil := HIL.out
      have hsub : ∀ t, t ∈ its.map (It.th w.heap.size) → t.holds w4 := fun t ht => sc.all t (by simp [ht])
      have hby : ∀ it ∈ its, Bytes it.x := fun it hit b hb => HP.out.byte b (List.mem_flatten.2 ⟨it.x, by rw [← HXS.out]; exact List.mem_map.2 ⟨it, hit, rfl⟩, hb⟩)
      have hpa := parts_rows (its := its) (fc := fun it => marked it.x) (f := It.x) hown (fun i it hit => by rw [List.getElem?_append_left (by have := (List.getElem?_eq_some_iff.1 hit).1; simp [owns]; omega)]; unfold owns; rw [List.getElem?_map, hit]; rfl) (fun it hit => hsub _ (List.mem_map.2 ⟨it, hit, rfl⟩)) (fun it hit => ⟨marked_take _, rfl, hby it hit⟩)
      rw [HXS.out] at hpa
      have S1 := Lib.hid (sum_ok (cap := capO) (HT.out.frame HC4.out) hpa (by unfold maxLen; omega))
      have ck := hatO ps.length (.slice (some ⟨B1, 0, none⟩) 1 1) (by rw [← hil, List.getElem?_append_right (by simp [owns])]; simp [owns])
      have cB : w4.cell? ⟨B1, 0, none⟩ = some (.int .u8 119) := cell_of_blk (c := #[.int .u8 119]) (t := 5) (fr := (0, 0)) (sc.all (blkT B1 (.cells #[.int .u8 119] 5 (0, 0))) (by simp)) 0
      have HBY := Lib.hid hby
      have SC := Lib.hid (show Go.Cl.Sep w.heap.size w4 ([rowT w.heap.size 24 1 vF its.length (fulls its), rowT w.heap.size 24 1 (.slice (some ⟨gO, 0, none⟩) (its.length + 1) capO) (its.length + 1) (owns its ++ [.slice (some ⟨B1, 0, none⟩) 1 1]), rowT w.heap.size 5 1 vA (catTo ps ps.length).length (u8s (catTo ps ps.length))] ++ (its.map (It.th w.heap.size) ++ [blkT B1 (.cells #[.int .u8 119] 5 (0, 0))])) from sc)
      have hin : ps.length + 1 ≤ capO := by omega
      have hin2 : (ps.length : Int) < (its.length : Int) + 1 := by omega
      clear hown hgrow hlie sc hpa hsub hby hatO hB1 CA SB
      go_wp2_with fail
      refine S1.out.mono ?_
      rintro e w5 ⟨rfl, rfl⟩
      go_wp2_with fail
      obtain ⟨oF, cF, rfl, -⟩ := row_form (SC.out.at [])
      obtain ⟨n, hn⟩ : ∃ n, n = sumI (cat ps) := ⟨_, rfl⟩
      rw [← hn]
      have HNN := Lib.hid hn
      have hi1 : its.length ≤ ps.length := by omega
      have hi2 : ps.length ≤ its.length := by omega
      clear hn S1 ck cB hil
      go_loopw [10, 11] (fun s10 s11 wr => ∃ k : Nat, k ≤ ps.length ∧ s11 = .int .i64 k ∧ s10 = .bool true ∧ Go.Cl.Sep w.heap.size wr ([rowT w.heap.size 24 1 (.slice oF its.length cF) its.length (fulls its), rowT w.heap.size 24 1 (.slice (some ⟨gO, 0, none⟩) (its.length + 1) capO) (its.length + 1) (owns its ++ [.slice (some ⟨B1, 0, none⟩) 1 1]), rowT w.heap.size 5 1 vA (catTo ps ps.length).length (u8s (catTo ps ps.length))] ++ (its.take k).map (It.ov w.heap.size) ++ ((its.drop k).map (It.th w.heap.size) ++ [blkT B1 (.cells #[.int .u8 119] 5 (0, 0))])) ∧ Chg (fun _ => False) w wr) (fun _ i _ => ps.length - (intOf i).toNat)
      case atStart => exact ⟨0, by omega, rfl, rfl, by simpa using SC.out, HC4.out⟩
      case round =>
        obtain ⟨k, hk, rfl, rfl, hsep, hch⟩ := hrel
        have HS := Lib.hid hsep
        have HCH := Lib.hid hch
        by_cases hlt : k < ps.length
        · have hki : k < its.length := by omega
          obtain ⟨g0, o0, hoa, hat⟩ := HP.out.at (by omega)
          subst hoa
          obtain ⟨v, hv, hb⟩ := hat k _ (List.getElem?_eq_getElem hlt)
          have hcell := cell_frame hch (fun _ _ => id) hv
          have hxe : its[k].x = ps[k] := by
            have h1 : (its.map It.x)[k]? = ps[k]? := by rw [HXS.out]
            rw [List.getElem?_map, List.getElem?_eq_getElem hki, List.getElem?_eq_getElem hlt] at h1
            simpa using h1
          have hdrop := List.drop_eq_getElem_cons hki
          have htake := List.take_succ_eq_append_getElem hki
          obtain ⟨gF, capF, curF, hvF, _, _, _, _, _, hatF⟩ := row_at (HS.out.all (rowT w.heap.size 24 1 (.slice oF its.length cF) its.length (fulls its)) (by simp)) (by omega)
          simp only [Value.slice.injEq, true_and] at hvF
          obtain ⟨rfl, rfl⟩ := hvF
          have hcF := hatF k (its[k].full) (by unfold fulls; rw [List.getElem?_map, List.getElem?_eq_getElem hki]; rfl)
          generalize its[k] = it at *
          have hbf := hb.frame hch fun _ _ => id
          rw [hdrop, List.map_cons, List.cons_append] at hsep
          have HSP := Lib.hid hsep
          have hrow : wr.ownsRow w.heap.size 5 1 it.full (it.x.length + 2) (u8s (marked it.x)) := hsep.at _
          rw [← hxe] at hbf
          have KP := Lib.hid (fun (wy : World) (hy : Chg (fun _ => False) wr wy) => kept_ok (row_frame hrow hy fun _ _ => id) (hbf.frame hy fun _ _ => id))
          obtain ⟨ob, cb, rfl, hcb⟩ := hb
          have HTK := Lib.hid htake
          have hlt' : (k : Int) < (ps.length : Int) := by omega
          have HBF := Lib.hid hbf
          unfold It.full at hcF
          clear hat hv hdrop htake hatF hsep hch hrow hcb hbf hxe
          go_wp2_with fail
          go_still_tail 8, (by kernel_rfl)
          change wpList _ _ _ _ _ (World.drew wr)
          go_wp2_with fail
          refine (KP.out _ (by repeat (first | exact Chg.refl _ _ | apply Chg.drew | (refine Chg.setCell ?_ (by simp) _) | (refine Chg.alloc ?_ _) | (refine Chg.setBlock ?_ (by simp) _)))).mono ?_
          rintro e wz ⟨rfl, hr, hcz⟩
          have hc2 : Chg (fun i => i = it.g) wr wz := (Chg.refl (fun i => i = it.g) wr).drew.trans hcz fun _ _ h => h
          have HC2 := Lib.hid (HCH.out.trans hc2 fun i hi h => by
            have := (HSP.out.old (t := it.th w.heap.size) (by simp) (show some i = it.full.ownBlock by rw [h]; rfl)).1
            omega)
          have E := Lib.hid (HSP.out.putAt (t' := it.ov w.heap.size) _ HCH.out.size hc2 (fun i _ h => show some i = it.full.ownBlock by rw [h]; rfl) hr fun i hi => .inl hi)
          clear hr hcz hc2 KP
          go_wp2
          go_roundw
          case rel => exact ⟨k + 1, by omega, by go_num, rfl, by have h := E.out; rw [HTK.out, List.map_append]; simp only [List.append_assoc, List.cons_append, List.nil_append, List.map_cons, List.map_nil, List.append_eq] at h ⊢; exact h, HC2.out⟩
          case measure => simp [intOf]; omega
        · have hke : k = ps.length := by omega
          subst hke
          rw [show its.take ps.length = its by rw [← HIL.out, List.take_length], show its.drop ps.length = [] by rw [← HIL.out, List.drop_length], List.map_nil, List.nil_append] at hsep
          have HS2 := Lib.hid (show Go.Cl.Sep w.heap.size wr ([rowT w.heap.size 5 1 (.slice none 0 0) 0 [], rowT w.heap.size 24 1 (.slice oF its.length cF) its.length (fulls its), rowT w.heap.size 24 1 (.slice (some ⟨gO, 0, none⟩) (its.length + 1) capO) (its.length + 1) (owns its ++ [.slice (some ⟨B1, 0, none⟩) 1 1]), rowT w.heap.size 5 1 vA (catTo ps ps.length).length (u8s (catTo ps ps.length))] ++ (its.map (It.ov w.heap.size) ++ [blkT B1 (.cells #[.int .u8 119] 5 (0, 0))])) by have h := hsep.nilRow 5 1; simp only [List.append_assoc] at h; exact h)
          have hql : (cat (overs its)).length = (cat ps).length := by
            unfold cat overs
            rw [List.length_flatten, List.length_flatten, ← HXS.out, List.map_map, List.map_map]
            congr 1
            refine List.map_congr_left fun it _ => ?_
            simp
          have HQL := Lib.hid hql
          have hqn : (overs its).length = its.length := by simp [overs]
          have HQN := Lib.hid hqn
          obtain ⟨qs, hqs⟩ : ∃ qs, qs = overs its := ⟨_, rfl⟩
          have HQS := Lib.hid hqs
          clear hsep hch HS hql hqn hqs
          go_wp2_with fail
          go_loopw [13, 14] (fun s13 s14 wr => ∃ (k : Nat) (vT : Value), k ≤ ps.length ∧ s14 = .int .i64 k ∧ vT = s13 ∧ Go.Cl.Sep w.heap.size wr ([rowT w.heap.size 5 1 vT (catTo qs k).length (u8s (catTo qs k)), rowT w.heap.size 24 1 (.slice oF its.length cF) its.length (fulls its), rowT w.heap.size 24 1 (.slice (some ⟨gO, 0, none⟩) (its.length + 1) capO) (its.length + 1) (owns its ++ [.slice (some ⟨B1, 0, none⟩) 1 1]), rowT w.heap.size 5 1 vA (catTo ps ps.length).length (u8s (catTo ps ps.length))] ++ (its.map (It.ov w.heap.size) ++ [blkT B1 (.cells #[.int .u8 119] 5 (0, 0))])) ∧ Chg (fun _ => False) w wr) (fun _ i _ => ps.length - (intOf i).toNat)
          case atStart => exact ⟨0, _, by omega, rfl, rfl, by rw [catTo_zero]; exact HS2.out, HCH.out⟩
          case round =>
            obtain ⟨k, vT, hk, rfl, rfl, hsep, hch⟩ := hrel
            have HS := Lib.hid hsep
            have HC6 := Lib.hid hch
            by_cases hlt : k < ps.length
            · have hki : k < its.length := by omega
              obtain ⟨gO', capO', curO', hvO, _, _, _, _, _, hatO⟩ := row_at (HS.out.at [_, _]) (by omega)
              simp only [Value.slice.injEq, Option.some.injEq, Addr.mk.injEq, true_and, and_true] at hvO
              obtain ⟨rfl, rfl⟩ := hvO
              have hcO := hatO k (its[k].own) (by rw [List.getElem?_append_left (by simp [owns]; omega)]; unfold owns; rw [List.getElem?_map, List.getElem?_eq_getElem hki]; rfl)
              have hqk : qs[k]? = some (List.replicate its[k].x.length 238) := by rw [HQS.out]; unfold overs; rw [List.getElem?_map, List.getElem?_eq_getElem hki]; rfl
              have HN := Lib.hid (catTo_next hqk)
              have hl1 := catTo_le qs (k + 1)
              rw [HN.out, List.length_append, show (cat qs).length = (cat ps).length by rw [HQS.out, HQL.out], List.length_replicate] at hl1
              have HL := Lib.hid (Nat.le_trans hl1 HSM.out)
              have hrow : (its[k].ov w.heap.size).holds wr := hsep.all _ (List.mem_append.2 (.inr (List.mem_append.2 (.inl (List.mem_map.2 ⟨_, List.getElem_mem hki, rfl⟩)))))
              generalize its[k] = it at *
              have hr := row_cut (show wr.ownsRow w.heap.size 5 1 it.full (it.x.length + 2) (u8s (List.replicate (it.x.length + 2) 238)) from hrow) (show it.x.length ≤ it.x.length + 2 by omega)
              have e : (u8s (List.replicate (it.x.length + 2) 238)).take (it.x.length * 1) = u8s (List.replicate it.x.length 238) := by unfold u8s; rw [← List.map_take, List.take_replicate, Nat.mul_one, Nat.min_eq_left (by omega)]
              rw [e] at hr
              have hsr := (row_bytes hr (fun b hb => by have := (List.mem_replicate.1 hb).2; omega)).src
              rw [List.length_replicate] at hsr
              have HSR := Lib.hid hsr
              obtain ⟨oT, cT, rfl, -⟩ := row_form (HS.out.at [])
              have hlt' : (k : Int) < (ps.length : Int) := by omega
              unfold It.own at hcO
              clear hatO hqk hl1 hrow hr e hsr hsep hch
              go_wp2_with (at_builtin; go_loud (refine wpList_app rfl _ _ 24 rfl w.heap.size 5 i0 (.int .u8 0) 1 1 Tryd.underlying24 hi hz0 hz1 hz2 rfl (by decide) (.slice oT (catTo qs k).length cT) (catTo qs k).length (u8s (catTo qs k)) (by rfl) (HS.out.at []) (some ⟨it.g, 0, none⟩) it.x.length it.cap (u8s (List.replicate it.x.length 238)) (by rfl) HSR.out (fun h => by cases h) (by have := HL.out; unfold maxLen; omega) (by have := HL.out; omega) HC6.out.size ?_); intro v5 w5 hown hgrow hlie)
              have HC7 := Lib.hid (sep_chg (A := []) HS.out HC6.out hgrow)
              have SD := Go.Cl.Sep.app [] HS.out HC6.out.size hown hgrow hlie
              have e4 : u8s (catTo qs (k + 1)) = u8s (catTo qs k) ++ u8s (List.replicate it.x.length 238) := by rw [HN.out]; simp [u8s]
              have e5 : (catTo qs (k + 1)).length = (catTo qs k).length + it.x.length := by rw [HN.out, List.length_append, List.length_replicate]
              rw [← e4, ← e5] at SD
              have E := Lib.hid SD
              clear hown hgrow hlie SD e4 e5
              go_roundw
              case rel => exact ⟨k + 1, _, by omega, by go_num, rfl, E.out, HC7.out⟩
              case measure => simp [intOf]; omega
            · have hke : k = ps.length := by omega
              subst hke
              have hpa := parts_rows (its := its) (fc := fun it => List.replicate (it.x.length + 2) 238) (f := fun it => List.replicate it.x.length 238) (HS.out.at [_, _]) (fun i it hit => by rw [List.getElem?_append_left (by have := (List.getElem?_eq_some_iff.1 hit).1; simp [owns]; omega)]; unfold owns; rw [List.getElem?_map, hit]; rfl) (fun it hit => HS.out.all (it.ov w.heap.size) (List.mem_append.2 (.inr (List.mem_append.2 (.inl (List.mem_map.2 ⟨_, hit, rfl⟩)))))) (fun it hit => ⟨by rw [List.take_replicate, Nat.min_eq_left (by omega)], by simp, fun b hb => by have := (List.mem_replicate.1 hb).2; omega⟩)
              have hpa2 : PartsAre wr (some ⟨gO, 0, none⟩) qs := by rw [HQS.out]; exact hpa
              have hqps : qs.length = ps.length := by rw [HQS.out, HQN.out, HIL.out]
              have s1 := sum_ok (cap := capO) (HT.out.frame hch) hpa2 (by unfold maxLen; omega)
              rw [hqps] at s1
              have S1 := Lib.hid s1
              have rT := HS.out.at []
              have rA := HS.out.at [_, _, _]
              rw [catTo_all] at rA
              rw [← hqps, catTo_all] at rT
              have bA := row_bytes rA HP.out.byte
              have bT := row_bytes rT (hpa2.byte)
              have HBA := Lib.hid bA
              have HBT := Lib.hid bT
              have HLA := Lib.hid HSM.out
              have HLT := Lib.hid (show (cat qs).length = (cat ps).length by rw [HQS.out, HQL.out])
              obtain ⟨oA, cA, rfl, -⟩ := row_form rA
              obtain ⟨oT, cT, rfl, -⟩ := row_form rT
              obtain ⟨m, hm⟩ : ∃ m, m = sumI (cat qs) := ⟨_, rfl⟩
              rw [← hm] at S1
              have HM := Lib.hid hm
              have R1 := Lib.hid (fun (wy : World) (hy : Chg (fun _ => False) wr wy) => rsum_ok (HBA.out.frame hy fun _ _ => id) (by have := HLA.out; omega))
              rw [← HNN.out] at R1
              have R2 := Lib.hid (fun (wy : World) (hy : Chg (fun _ => False) wr wy) => rsum_ok (HBT.out.frame hy fun _ _ => id) (by have := HLA.out; have := HLT.out; omega))
              rw [← hm] at R2
              have c2 : Chg (fun _ => False) wr (wr.alloc (.cells #[.slice oA (cat ps).length cA] 24 (0, 0))) := (Chg.refl _ _).alloc _
              have S2 := Lib.hid (sum_ok (cap := 1) ((HT.out.frame hch).frame c2) (parts_one (g := wr.heap.size) (blk_alloc_at _ _ _ rfl) (HBA.out.frame c2 fun _ _ => id)) (show [cat ps].length ≤ maxLen from (by decide : 1 ≤ maxLen)))
              rw [cat_one, ← HNN.out] at S2
              have HC8 := Lib.hid (hch.trans c2 fun _ _ => id)
              have hin3 : ps.length ≤ capO := by omega
              clear hpa hpa2 s1 hqps rT rA bA bT hm hsep hch HS HS2
              go_wp2_with fail
              refine S1.out.mono ?_
              rintro e wa ⟨rfl, rfl⟩
              have HCA := Lib.hid c2
              clear c2
              go_wp2_with fail
              refine (R1.out _ (Chg.refl _ _)).mono ?_
              rintro e wb ⟨rfl, rfl⟩
              go_wp2_with fail
              refine S2.out.mono ?_
              rintro e wc ⟨rfl, rfl⟩
              go_wp2_with fail
              refine (R2.out _ HCA.out).mono ?_
              rintro e wd ⟨rfl, rfl⟩
              go_wp2
              go_ret
              exact ⟨rfl, HC8.out⟩

theorem sums_row (w : World) (hT : TableAt w) {v : Value} (h : ∃ ps oa c, v = .slice oa ps.length c ∧ ps.length ≤ c ∧ PartsAre w oa ps ∧ ps.length ≤ 1048576 ∧ (cat ps).length ≤ 1048576) :
    Calls Tryd.prog 3 #[v] w fun e w' => e = .returned (.bool true) ∧ Chg (fun _ => False) w w' := by
  obtain ⟨ps, oa, c, rfl, h1, h2, h3, h4⟩ := h
  exact sums_walk hT h2 h1 h3 h4
end Go.Proofs.YtfihpiommicdbaaDoor
