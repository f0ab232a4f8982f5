/- The Book of the laws: contract of longer. No condition. -/
import Derived.Test.YtfihpiommicdbaaDoorWirRD
import Derived.Test.YtfihpiommicdbaaDoorLibKeep
import Derived.Test.YtfihpiommicdbaaDoorLibSep
namespace Go.Proofs.YtfihpiommicdbaaDoor
open Go.RowKit Go.Cl
set_option linter.unusedVariables false
set_option linter.unusedSimpArgs false
attribute [local go_sem] lt_add_one' blk_alloc_past blk_alloc_at blk_drew blk_setCell_ne

/-- Bytes are read as before where their block has not turned. -/
theorem _root_.Go.Cl.BytesIs.frameO {S : Nat → Prop} {w w' : World} {v : Value} {x : List Int} (h : BytesIs w v x) (hc : Chg S w w') (hs : ∀ g, v.ownBlock = some g → ¬ S g) : BytesIs w' v x := by
  obtain ⟨ob, c, rfl, h1, h2, h3, h4⟩ := h
  refine ⟨ob, c, rfl, h1, h2, h3, fun j b hj => ?_⟩
  obtain ⟨a, rfl, h5, h6⟩ := h4 j b hj
  refine ⟨a, rfl, ?_, h6⟩
  have hl := World.block_lt_of_cell? _ _ h5
  have hb : (a.add j).block = a.block := by unfold Addr.add; split <;> rfl
  exact (World.cell?_of_block (hc.block _ hl (by rw [hb]; exact hs a.block rfl))).trans h5

/-- A row that has grown in its block holds what it held. -/
theorem row_before {w : World} {base : Nat} {v v1 : Value} {k : Nat} {xs ys : List Int} {oa : Option Addr} {c : Nat} (hv : v = .slice oa xs.length c) (hc1 : xs.length ≤ c) (hc2 : c ≤ maxLen) (hc3 : oa = none → xs.length = 0 ∧ c = 0) (ha : ∀ a, oa = some a → a = ⟨a.block, 0, none⟩)
    (h1 : w.ownsRow base 5 1 v1 k (u8s (xs ++ ys))) (hb : ∀ b ∈ xs ++ ys, 0 ≤ b ∧ b ≤ 255) (ho : v1.ownBlock = v.ownBlock) : BytesIs w v xs := by
  subst hv
  refine ⟨oa, c, rfl, hc1, hc2, fun h => (hc3 h).2, fun j b hj => ?_⟩
  have hjl := (List.getElem?_eq_some_iff.1 hj).1
  cases oa with
  | none => have := (hc3 rfl).1; omega
  | some a =>
    refine ⟨a, rfl, ?_, hb b (by simp [List.mem_of_getElem? hj])⟩
    rw [ha a rfl]
    have hg : v1.ownBlock = some a.block := ho
    rcases h1.2 with ⟨rfl, -⟩ | ⟨g, cap, cur, rfl, _⟩
    · cases hg
    · cases hg
      have := h1.cells (g := a.block) rfl j (.int .u8 b) (by rw [List.getElem?_map, List.getElem?_append_left hjl, hj]; rfl)
      rw [addr_add, Nat.zero_add] at this ⊢
      exact this

/-- With 97 marks behind it. -/
def longB (xs : List Int) (m : Int) : List Int := xs ++ List.replicate 97 m

/-- One step of longer: where the row lies, and that the first row's bytes are there. -/
theorem longer_step {w wr w3 : World} {base k : Nat} {v v1 v2 : Value} {xs ys : List Int} (H : w.ownsRow base 5 1 v xs.length (u8s xs)) (hx : ∀ b ∈ xs ++ ys, 0 ≤ b ∧ b ≤ 255) (h1 : wr.ownsRow base 5 1 v1 k (u8s (xs ++ ys)))
    (hp : v1.ownBlock = v.ownBlock ∨ ∃ g, v1.ownBlock = some g ∧ w.heap.size ≤ g ∧ BytesIs wr v xs) (hs : w.heap.size ≤ wr.heap.size)
    (hc : Chg (fun i => some i = v1.ownBlock) wr w3) (hlie : v2.ownBlock = v1.ownBlock ∨ ∃ g, v2.ownBlock = some g ∧ wr.heap.size ≤ g) (hk : v2.ownBlock = v1.ownBlock ∨ Chg (fun _ => False) wr w3) :
    v2.ownBlock = v.ownBlock ∨ ∃ g, v2.ownBlock = some g ∧ w.heap.size ≤ g ∧ BytesIs w3 v xs := by
  obtain ⟨ov, cv, hv, hc1, hc2, hc3, hc4⟩ := row_form H
  rcases hp with hp | ⟨g, hp, hg, hb⟩
  · have hb := row_before hv hc1 hc2 hc3 hc4 h1 hx hp
    rcases hlie with hl | ⟨g, hl, hg⟩
    · exact .inl (hl.trans hp)
    · rcases hk with hk | hk
      · exact .inl (hk.trans hp)
      · exact .inr ⟨g, hl, Nat.le_trans hs hg, hb.frameO hk fun _ _ => id⟩
  · have hb3 : BytesIs w3 v xs := hb.frameO hc fun g' hg' e => by
      obtain ⟨_, cur, hcu⟩ := row_block H hg'
      have := blk_lt hcu
      rw [hp] at e
      cases e
      omega
    rcases hlie with hl | ⟨g', hl, hg'⟩
    · exact .inr ⟨g, hl.trans hp, hg, hb3⟩
    · exact .inr ⟨g', hl, Nat.le_trans hs hg', hb3⟩

set_option maxHeartbeats 4000000 in
set_option maxRecDepth 100000 in
theorem longer_ok {w : World} {base : Nat} {v : Value} {xs : List Int} (h : w.ownsRow base 5 1 v xs.length (u8s xs)) (hx : ∀ b ∈ xs, 0 ≤ b ∧ b ≤ 255) (hbs : base ≤ w.heap.size) (m : Int) (hm0 : 0 ≤ m) (hm1 : m ≤ 255) (hl : xs.length ≤ 140737488000000) :
    Calls Tryd.prog 60 #[v, .int .u8 m] w fun e w' => ∃ v', e = .returned v' ∧ w'.ownsRow base 5 1 v' (xs.length + 97) (u8s (longB xs m)) ∧ BytesIs w' v xs ∧ (v'.ownBlock = v.ownBlock ∨ ∃ g, v'.ownBlock = some g ∧ w.heap.size ≤ g) ∧ Chg (fun i => some i = v.ownBlock) w w' := by
  have H := Lib.hid h
  have HX := Lib.hid hx
  have HBS := Lib.hid hbs
  have HM := Lib.hid (And.intro hm0 hm1)
  have HL := Lib.hid hl
  obtain ⟨ov, cv, hv, hc1, hc2, hc3, hc4⟩ := row_form h
  have HF := Lib.hid (And.intro hc1 (And.intro hc2 (And.intro hc3 hc4)))
  have HV := Lib.hid hv
  obtain ⟨i0, hi, hz0, hz1, hz2⟩ := info5z
  have HB0 := Lib.hid (row_bytes h hx)
  clear h hx hbs hm0 hm1 hl hc1 hc2 hc3 hc4 hv
  go_enter Tryd.func60, Tryd.ntmps60
  go_wp2
  go_loopg [0, 5] 97 (fun g s0 s5 wr => ∃ k : Nat, k + g = 97 ∧ s5 = .int .i64 k ∧ wr.ownsRow base 5 1 s0 (xs.length + k) (u8s (xs ++ List.replicate k m)) ∧ (s0.ownBlock = v.ownBlock ∨ ∃ g, s0.ownBlock = some g ∧ w.heap.size ≤ g ∧ BytesIs wr v xs) ∧ Chg (fun i => some i = v.ownBlock) w wr)
  case atStart => exact ⟨0, rfl, rfl, by simpa using H.out, .inl rfl, Chg.refl _ _⟩
  case round =>
    obtain ⟨k, hk, rfl, hrow, hpos, hc⟩ := hrel
    have HK := Lib.hid hk
    have HR := Lib.hid hrow
    have HP := Lib.hid hpos
    have HC := Lib.hid hc
    obtain ⟨o1, c1, rfl, hd1, hd2, _⟩ := row_form hrow
    clear hrow hpos hc hd1 hd2
    by_cases hlt : (k : Int) < 97
    · have hlt2 : k < 97 := by omega
      have HLT := Lib.hid hlt2
      clear hk hlt2
      have HRW := Lib.hid (fun wy (hy : Chg (fun _ => False) wr wy) => row_frame HR.out hy fun _ _ => id)
      go_wp2_with (at_builtin; refine wpList_app2 rfl _ _ 24 rfl base 5 i0 (.int .u8 0) 1 1 Tryd.underlying24 hi hz0 hz1 hz2 rfl (by decide) (.slice o1 (xs.length + k) c1) (xs.length + k) (u8s (xs ++ List.replicate k m)) (by rfl) (HRW.out _ (by repeat (first | exact Chg.refl _ _ | apply Chg.drew | (refine Chg.setCell ?_ (by simp) _) | (refine Chg.alloc ?_ _) | (refine Chg.setBlock ?_ (by simp) _)))) _ 1 1 [.int .u8 m] (by rfl) (SrcIs.some (by rfl) (by simp [Value.oneCell']) (World.news_of_block (heap_alloc_new _ _))) (fun h => by cases h) (by have := HL.out; unfold maxLen; omega) (by have := HL.out; omega) (by have := HBS.out; have := HC.out.size; simp; omega) ?_; intro v2 w3 hown hgrow hlie hkeep; have HO := Lib.hid hown; have HGR := Lib.hid hgrow; have HLie := Lib.hid hlie; have HKP := Lib.hid hkeep; clear hown hgrow hlie hkeep)
      have e2 : u8s (xs ++ List.replicate k m) ++ [Value.int .u8 m] = u8s (xs ++ List.replicate (k + 1) m) := by
        rw [List.replicate_succ', ← List.append_assoc, u8s, u8s, List.map_append (l₁ := xs ++ List.replicate k m)]
        rfl
      have E1 := Lib.hid (show w3.ownsRow base 5 1 v2 (xs.length + (k + 1)) (u8s (xs ++ List.replicate (k + 1) m)) by rw [← e2]; exact HO.out)
      have hc4 : Chg (fun i => some i = (Value.slice o1 (xs.length + k) c1).ownBlock) wr w3 := ((Chg.refl _ wr).alloc _).trans (Chg.of_grown HGR.out) fun _ _ h => h
      have E2 := Lib.hid (longer_step H.out (fun b hb => by
        rcases List.mem_append.1 hb with hb | hb
        · exact HX.out b hb
        · rw [(List.mem_replicate.1 hb).2]; exact HM.out) HR.out HP.out HC.out.size hc4 (HLie.out.imp id fun h => ⟨_, h, by simp⟩) (HKP.out.imp id fun h => ((Chg.refl (fun _ => False) wr).alloc _).trans h fun _ _ => id))
      have E3 := Lib.hid (HC.out.trans hc4 fun i hi h => by
        rcases HP.out with hp | ⟨g, hp, hg, _⟩
        · exact h.trans hp
        · rw [hp] at h; cases h; omega)
      clear e2 hc4
      go_wp2
      go_roundg (97 - (k + 1))
      case measure => have := HLT.out; have := HK.out; omega
      case rel => exact ⟨k + 1, by have := HLT.out; omega, by go_num, E1.out, E2.out, E3.out⟩
    · have hke : k = 97 := by omega
      subst hke
      clear hk
      have hb : BytesIs wr v xs := by
        rcases HP.out with hp | ⟨g, _, _, hb⟩
        · exact row_before HV.out HF.out.1 HF.out.2.1 HF.out.2.2.1 HF.out.2.2.2 HR.out (fun b hb => by
            rcases List.mem_append.1 hb with hb | hb
            · exact HX.out b hb
            · rw [(List.mem_replicate.1 hb).2]; exact HM.out) hp
        · exact hb
      have E := Lib.hid hb
      clear hb
      go_wp2
      go_ret
      exact ⟨_, rfl, HR.out, E.out, HP.out.imp id fun ⟨g, h1, h2, _⟩ => ⟨g, h1, h2⟩, HC.out⟩
end Go.Proofs.YtfihpiommicdbaaDoor
