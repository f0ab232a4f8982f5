/- Small helpers of the laws: 'same', 'pick', 'lent'. No condition. -/
import Derived.Test.YtfihpiommicdbaaDoorWirA
namespace Go.Proofs.YtfihpiommicdbaaDoor
open Go.RowKit Go.Cl
set_option linter.unusedVariables false
set_option linter.unusedSimpArgs false
attribute [local go_sem] lt_add_one' blk_alloc_past blk_alloc_at blk_drew blk_setCell_ne

theorem _root_.Go.Cl.Chg.drewN {S : Nat → Prop} {a w : World} (h : Chg S a w) (n : Nat) : Chg S a (w.drewN n) := ⟨h.os, h.tape, h.output, h.size, h.block⟩

def I64 (c : Int) : Prop := -9223372036854775808 ≤ c ∧ c ≤ 9223372036854775807
def pickI (c n : Int) : Int := if c < 0 then (-(c + 1)) % n else c % n
theorem pickI_bd (c n : Int) (h : 0 < n) : 0 ≤ pickI c n ∧ pickI c n < n := by
  unfold pickI
  split
  · exact ⟨Int.emod_nonneg _ (by omega), Int.emod_lt_of_pos _ h⟩
  · exact ⟨Int.emod_nonneg _ (by omega), Int.emod_lt_of_pos _ h⟩

theorem pick_any (c n : Int) (hc : I64 c) (hn : 1 ≤ n) (hn2 : n ≤ 4611686018427387904) (w : World) :
    Calls Tryd.prog 15 #[.int .i64 c, .int .i64 n] w fun e w' => e = .returned (.int .i64 (pickI c n)) ∧ w = w' := by
  obtain ⟨hc1, hc2⟩ := hc
  by_cases hlt : c < 0
  · have e1 : (-(c + 1)).tmod n = (-(c + 1)) % n := Int.tmod_eq_emod_of_nonneg (by omega)
    have e2 : pickI c n = (-(c + 1)) % n := by simp [pickI, hlt]
    rw [e2, ← e1]
    clear e1 e2
    go_enter Tryd.func15, Tryd.ntmps15
    go_wp2
    go_ret
    simp
  · have e2 : pickI c n = c % n := by simp [pickI, hlt]
    rw [e2]
    clear e2
    go_enter Tryd.func15, Tryd.ntmps15
    go_wp2
    go_ret
    simp

set_option maxHeartbeats 1000000 in
set_option maxRecDepth 100000 in
theorem same_ok {w : World} {a b : Value} {xs ys : List Int} (hx : BytesIs w a xs) (hy : BytesIs w b ys) :
    Calls Tryd.prog 49 #[a, b] w fun e w' => e = .returned (.bool (decide (xs = ys))) ∧ Chg (fun _ => False) w w' := by
  have HX := Lib.hid hx
  have HY := Lib.hid hy
  have hxl := hx.len
  have hyl := hy.len
  obtain ⟨oa, ca, rfl, hca, hca2, _⟩ := hx
  obtain ⟨ob, cb, rfl, hcb, hcb2, _⟩ := hy
  unfold maxLen at hxl hyl hca2 hcb2
  by_cases hl : xs.length = ys.length
  · have hl1 : ((xs.length : Int) != ys.length) = false := by simp [hl]
    have HL := Lib.hid hl
    clear hl
    go_enter Tryd.func49, Tryd.ntmps49
    go_wp2
    go_loopw [5] (fun s5 wr => ∃ k : Nat, k ≤ xs.length ∧ s5 = .int .i64 k ∧ (xs.take k = ys.take k) ∧ Chg (fun _ => False) w wr) (fun i _ => xs.length - (intOf i).toNat)
    case atStart => exact ⟨0, Nat.zero_le _, rfl, by simp, Chg.refl _ _⟩
    case round =>
      obtain ⟨k, hk, rfl, he, hc⟩ := hrel
      have HE := Lib.hid he
      have HC := Lib.hid hc
      clear he hc
      by_cases hlt : k < xs.length
      · obtain ⟨g, o, c, hv, _, _, hat⟩ := (HX.out.frame HC.out fun _ _ => id).at (by omega)
        simp only [Value.slice.injEq] at hv
        obtain ⟨rfl, _, rfl⟩ := hv
        have hky : k < ys.length := by have := HL.out; omega
        obtain ⟨g2, o2, c2, hv2, _, _, hat2⟩ := (HY.out.frame HC.out fun _ _ => id).at (by omega)
        simp only [Value.slice.injEq] at hv2
        obtain ⟨rfl, _, rfl⟩ := hv2
        obtain ⟨hc1, _, _⟩ := hat k _ (List.getElem?_eq_getElem hlt)
        obtain ⟨hc2, _, _⟩ := hat2 k _ (List.getElem?_eq_getElem hky)
        have hlt' : (k : Int) < (xs.length : Int) := by omega
        have hky' : (k : Int) < (ys.length : Int) := by omega
        have HN := Lib.hid (List.take_succ_eq_append_getElem hlt)
        have HN2 := Lib.hid (List.take_succ_eq_append_getElem hky)
        have HN3 := Lib.hid (fun (h : xs = ys) => show xs[k] = ys[k] by subst h; rfl)
        clear hat hat2
        generalize xs[k] = x at *
        generalize ys[k] = y at *
        by_cases hxy : x = y
        · subst hxy
          go_wp2
          go_quiet (fail)
          go_wp2
          go_roundw
          case rel => exact ⟨k + 1, by omega, by go_num, by rw [HN.out, HN2.out, HE.out], HC.out.drewN _⟩
          case measure => simp [intOf]; omega
        · have hne : (x != y) = true := by simpa using hxy
          have HNE := Lib.hid (show decide (xs = ys) = false from decide_eq_false fun h => hxy (HN3.out h))
          clear hxy
          go_wp2
          go_quiet (fail)
          go_wp2
          go_ret
          exact ⟨by rw [HNE.out]; rfl, HC.out.drewN _⟩
      · have hk2 : k = xs.length := by omega
        subst hk2
        have HEE := Lib.hid (show decide (xs = ys) = true from decide_eq_true (by have := HE.out; rw [List.take_length, HL.out, List.take_length] at this; exact this))
        go_wp2
        go_ret
        exact ⟨by rw [HEE.out]; rfl, HC.out⟩
  · have hl1 : ((xs.length : Int) != ys.length) = true := by simp; omega
    have HEE := Lib.hid (show decide (xs = ys) = false from decide_eq_false fun h => hl (by rw [h]))
    clear hl
    go_enter Tryd.func49, Tryd.ntmps49
    go_wp2
    go_ret
    exact ⟨by rw [HEE.out]; rfl, Chg.refl _ _⟩

set_option maxRecDepth 100000 in
theorem info5z : ∃ i, Tryd.prog.info? 5 = some i ∧ i.zero = some (.int .u8 0) ∧ i.size = 1 ∧ i.bytes = 1 := ⟨_, rfl, by kernel_rfl, by kernel_rfl, by kernel_rfl⟩
theorem nil_row (w : World) (base : Nat) (e : TypeId) : w.ownsRow base e 1 (.slice none 0 0) 0 [] := ⟨rfl, .inl ⟨rfl, rfl⟩⟩

set_option maxHeartbeats 1000000 in
set_option maxRecDepth 100000 in
theorem lent_ok {w : World} {v : Value} {xs : List Int} (hx : BytesIs w v xs) (hl : xs.length ≤ 140737488000000) :
    Calls Tryd.prog 11 #[v] w fun e w' => ∃ v', e = .returned v' ∧ w'.ownsRow w.heap.size 5 1 v' (xs.length + 2) ((xs ++ [90, 165]).map (Value.int .u8)) ∧ Chg (fun _ => False) w w' := by
  have HX := Lib.hid hx
  obtain ⟨oa, ca, rfl, hca, hca2, hca3⟩ := hx
  have HS := Lib.hid HX.out.src
  have HC0 := Lib.hid hca3
  obtain ⟨i0, hi, hz0, hz1, hz2⟩ := info5z
  have HN := Lib.hid (nil_row w w.heap.size 5)
  have HL := Lib.hid hl
  clear hca3 hl hca hca2
  go_enter Tryd.func11, Tryd.ntmps11
  go_upto_region 3 with (at_builtin; go_loud (refine wpList_app rfl _ _ 24 rfl w.heap.size 5 i0 (.int .u8 0) 1 1 Tryd.underlying24 hi hz0 hz1 hz2 rfl (by decide) (.slice none 0 0) 0 [] (by rfl) HN.out oa xs.length ca _ (by rfl) HS.out HC0.out.1 (by have := HL.out; unfold maxLen; omega) (by have := HL.out; omega) (Nat.le_refl _) ?_); intro v1 w1 hown hgrow hlie)
  have hc1 : Chg (fun _ => False) w w1 := (Chg.of_grown hgrow).mono fun _ _ h => by simp [Value.ownBlock] at h
  have HO := Lib.hid (show w1.ownsRow w.heap.size 5 1 v1 xs.length (xs.map (Value.int .u8)) by simpa using hown)
  have HC1 := Lib.hid hc1
  clear hown hgrow hlie hc1
  obtain ⟨o1, c1, rfl, _⟩ := row_form HO.out
  have HA := Lib.hid (row_frame HO.out ((Chg.refl (fun _ => False) w1).alloc (.cells #[.int .u8 90, .int .u8 165] 5 (0, 0))) fun _ _ => id)
  go_wp2_with (at_builtin; refine wpList_app rfl _ _ 24 rfl w.heap.size 5 i0 (.int .u8 0) 1 1 Tryd.underlying24 hi hz0 hz1 hz2 rfl (by decide) (.slice o1 xs.length c1) xs.length (xs.map (Value.int .u8)) (by rfl) HA.out _ 2 2 [.int .u8 90, .int .u8 165] (by rfl) (SrcIs.some (by rfl) (by simp [Value.oneCell']) (World.news_of_block (heap_alloc_new _ _))) (fun h => by cases h) (by have := HL.out; unfold maxLen; omega) (by have := HL.out; omega) (by have := HC1.out.size; simp; omega) ?_; intro v2 w2 hown hgrow hlie)
  have hc2 : Chg (fun _ => False) w w2 := (HC1.out.alloc (.cells #[.int .u8 90, .int .u8 165] 5 (0, 0))).trans (Chg.of_grown hgrow) fun i hi h => by
    obtain ⟨hb, _⟩ := row_block HA.out h.symm
    omega
  have HO2 := Lib.hid hown
  have HC2 := Lib.hid hc2
  clear hown hgrow hlie hc2
  go_wp2
  go_ret
  exact ⟨_, rfl, by have := HO2.out; simpa using this, HC2.out⟩
end Go.Proofs.YtfihpiommicdbaaDoor
