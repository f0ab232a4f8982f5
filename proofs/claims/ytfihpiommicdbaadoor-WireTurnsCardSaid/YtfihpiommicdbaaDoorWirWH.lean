/- The law's maker of two writers: contracts of cut, much; NewWriter of a limit that is none. No condition. -/
import Derived.Test.YtfihpiommicdbaaDoorWirWG
namespace Go.Proofs.YtfihpiommicdbaaDoor
open Go.RowKit Go.Cl
set_option linter.unusedVariables false
set_option linter.unusedSimpArgs false
attribute [local go_sem] lt_add_one' blk_alloc_past blk_alloc_at blk_drew blk_setCell_ne

theorem newW_no {w : World} (lim : Int) (h : lim < 0 ∨ 67108864 < lim) :
    Calls Tryd.prog 16 #[.int .i64 lim] w fun r w' => r = .returned (.tuple #[.pointer none, .int .i64 10]) ∧ w = w' := by
  rcases h with h | h
  · go_enter Tryd.func16, Tryd.ntmps16
    go_wp2
    go_ret2
    exact ⟨rfl, rfl⟩
  · have h0 : ¬ lim < 0 := by omega
    go_enter Tryd.func16, Tryd.ntmps16
    go_wp2
    go_ret2
    exact ⟨rfl, rfl⟩
theorem bytes_take {w : World} {ob : Option Addr} {c : Nat} {xs : List Int} (h : BytesIs w (.slice ob xs.length c) xs) (k : Nat) : BytesIs w (.slice ob (xs.take k).length c) (xs.take k) := by
  obtain ⟨o2, c2, e2, h1, h2, h3, h4⟩ := h
  simp only [Value.slice.injEq, true_and] at e2
  obtain ⟨rfl, rfl⟩ := e2
  refine ⟨ob, c, rfl, by rw [List.length_take]; omega, h2, h3, fun j u hj => h4 j u ?_⟩
  have hj2 := (List.getElem?_eq_some_iff.1 hj).1
  rw [List.getElem?_take_of_lt (by rw [List.length_take] at hj2; omega)] at hj
  exact hj
theorem results_cell1 {fn : Func} {p : Tmp} {ty : TypeId} (h : fn.results = #[.cell p ty]) (tmps : Array Value) (P : Program) (w : World) :
    (results fn tmps).run P w = ((asAddr (tmps.getD p undef)).run P w).andThen fun a w₁ => (loadVar ty a).run P w₁ := by
  simp only [results, h]
  simp [Sem.run_bind, Result.andThen]
def cutS (st : ByteArray) : ByteArray := if 70000 < st.size then st.extract 0 70000 else st
theorem cutS_few (st : ByteArray) : (cutS st).size ≤ 70000 := by
  unfold cutS
  split
  · simp [ByteArray.size_extract]; omega
  · omega

set_option maxHeartbeats 2000000 in
set_option maxRecDepth 100000 in
theorem cut_ok {w : World} (kd nn k : Int) (ob : Option Addr) (bl : List Int) (bc : Nat) (hbl : bl.length ≤ bc) (hbc : bc ≤ 9223372036854775807) (st : ByteArray) :
    Calls Tryd.prog 18 #[.agg #[.int .i64 kd, .int .u64 nn, .int .i64 k, .slice ob bl.length bc, .string st]] w fun r w' => r = .returned (.agg #[.int .i64 kd, .int .u64 nn, .int .i64 k, .slice ob (bl.take 3000).length bc, .string (cutS st)]) ∧ Chg (fun _ => False) w w' := by
  obtain ⟨L, hL⟩ : ∃ L, (bl.take 3000).length = L := ⟨_, rfl⟩
  rw [hL]
  by_cases h1 : 3000 < bl.length
  · have h1' : (3000 : Int) < (bl.length : Int) := by omega
    have h1b : (3000 : Int) ≤ (bc : Int) := by omega
    have HE := Lib.hid (show L = 3000 by rw [← hL, List.length_take]; omega)
    by_cases h2 : 70000 < st.size
    · have h2' : (70000 : Int) < (st.size : Int) := by omega
      have HS := Lib.hid (show cutS st = st.extract 0 70000 by unfold cutS; rw [if_pos h2])
      clear h1 h2 hL
      go_enter Tryd.func18, Tryd.ntmps18
      go_wp2
      refine bodyPost_ret (v := .agg #[.int .i64 kd, .int .u64 nn, .int .i64 k, .slice ob 3000 bc, .string (st.extract 0 70000)]) (by rw [results_cell1 (p := 2) (ty := 50) rfl]; go_simp) rfl ?_
      exact ⟨by rw [HE.out, HS.out], ((Chg.refl _ _).alloc _).alloc _⟩
    · have h2' : ¬ (70000 : Int) < (st.size : Int) := by omega
      have HS := Lib.hid (show cutS st = st by unfold cutS; rw [if_neg h2])
      clear h1 h2 hL
      go_enter Tryd.func18, Tryd.ntmps18
      go_wp2
      refine bodyPost_ret (v := .agg #[.int .i64 kd, .int .u64 nn, .int .i64 k, .slice ob 3000 bc, .string st]) (by rw [results_cell1 (p := 2) (ty := 50) rfl]; go_simp) rfl ?_
      exact ⟨by rw [HE.out, HS.out], ((Chg.refl _ _).alloc _).alloc _⟩
  · have h1' : ¬ (3000 : Int) < (bl.length : Int) := by omega
    have HE := Lib.hid (show L = bl.length by rw [← hL, List.length_take]; omega)
    by_cases h2 : 70000 < st.size
    · have h2' : (70000 : Int) < (st.size : Int) := by omega
      have HS := Lib.hid (show cutS st = st.extract 0 70000 by unfold cutS; rw [if_pos h2])
      clear h1 h2 hL
      go_enter Tryd.func18, Tryd.ntmps18
      go_wp2
      refine bodyPost_ret (v := .agg #[.int .i64 kd, .int .u64 nn, .int .i64 k, .slice ob bl.length bc, .string (st.extract 0 70000)]) (by rw [results_cell1 (p := 2) (ty := 50) rfl]; go_simp) rfl ?_
      exact ⟨by rw [HE.out, HS.out], ((Chg.refl _ _).alloc _).alloc _⟩
    · have h2' : ¬ (70000 : Int) < (st.size : Int) := by omega
      have HS := Lib.hid (show cutS st = st by unfold cutS; rw [if_neg h2])
      clear h1 h2 hL
      go_enter Tryd.func18, Tryd.ntmps18
      go_wp2
      refine bodyPost_ret (v := .agg #[.int .i64 kd, .int .u64 nn, .int .i64 k, .slice ob bl.length bc, .string st]) (by rw [results_cell1 (p := 2) (ty := 50) rfl]; go_simp) rfl ?_
      exact ⟨by rw [HE.out, HS.out], ((Chg.refl _ _).alloc _).alloc _⟩

/-- A cell of the maker is another one. -/
theorem Two.setX {base B X b b' i : Nat} {w : World} {bs : BS} {s s2 : WS} {oY : Thing} {pv : Value} {sz dn sz' dn' : Int} {x : Value} {R : List Thing} (h : Two base w B bs b b' s s2 (oY :: blkT X (mkO b b' pv sz dn) :: R)) (hb : base ≤ w.heap.size) (he : objSet i x (mkO b b' pv sz dn) = mkO b b' pv sz' dn') :
    Two base (w.setCell ⟨X, i, none⟩ x) B bs b b' s s2 (oY :: blkT X (mkO b b' pv sz' dn') :: R) ∧ Chg (fun i => base ≤ i) w (w.setCell ⟨X, i, none⟩ x) :=
  h.rest fun Z hz => by
    have h3 : Sep base w ((Z ++ [oY]) ++ blkT X (mkO b b' pv sz dn) :: R) := by simpa [List.append_assoc] using hz
    have hX : base ≤ X := h3.above (blkT X (mkO b b' pv sz dn)) (by simp) X rfl
    have h4 := (h3.perm List.perm_middle).cell (i := i) (x := x) hb he
    have h5 := h4.perm (List.perm_middle (l₁ := Z ++ [oY])).symm
    exact ⟨by simpa [List.append_assoc] using h5, (Chg.refl _ w).setCell (p := ⟨X, i, none⟩) (fun _ => hX) _⟩

/-- What counting leaves. -/
def Counted (base : Nat) (w : World) (B : Nat) (bs : BS) (X b b' : Nat) (s : WS) (pl : List Int) (R : List Thing) (e : Ending) (w' : World) : Prop :=
  ∃ over, e = .returned (.bool over) ∧ (∃ sz' dn', Maker base w' B bs X b b' s pl sz' dn' R) ∧ Chg (fun i => base ≤ i) w w'

set_option maxHeartbeats 4000000 in
set_option maxRecDepth 100000 in
theorem much_ok {w : World} {base B X b b' : Nat} {bs : BS} {s : WS} {pl : List Int} {sz dn : Int} {R : List Thing} (h : Maker base w B bs X b b' s pl sz dn R) (hbs : base ≤ w.heap.size) (kd nn k : Int) (hk : I64 k) (ob : Option Addr) (n bc : Nat) (st : ByteArray) :
    Calls Tryd.prog 19 #[.pointer (some ⟨X, 0, none⟩), .agg #[.int .i64 kd, .int .u64 nn, .int .i64 k, .slice ob n bc, .string st]] w (Counted base w B bs X b b' s pl R) := by
  have HKK := Lib.hid hk
  have HBS0 := Lib.hid hbs
  obtain ⟨pv, hT⟩ := h
  obtain ⟨z0, hz0⟩ : ∃ z0, IntKind.i64.wrap (sz + (n : Int)) = z0 := ⟨_, rfl⟩
  obtain ⟨z1, hz1⟩ : ∃ z1, IntKind.i64.wrap (z0 + (st.size : Int)) = z1 := ⟨_, rfl⟩
  obtain ⟨d1, hd1⟩ : ∃ d1, IntKind.i64.wrap (dn + 1) = d1 := ⟨_, rfl⟩
  clear hk
  go_enter Tryd.func19, Tryd.ntmps19
  go_upto_region 1 with (fail)
  obtain ⟨wa, hwa⟩ : ∃ wa, wa = w.alloc (.cells #[.int .i64 kd, .int .u64 nn, .int .i64 k, .slice ob n bc, .string st] 50 (0, 0)) := ⟨_, rfl⟩
  obtain ⟨Y, hY⟩ : ∃ Y, Y = w.heap.size := ⟨_, rfl⟩
  have hc0 : Chg (fun _ => False) w wa := by rw [hwa]; exact (Chg.refl _ _).alloc _
  have hyb : blk wa Y = some (opO kd nn k (.slice ob n bc) st) := by rw [hwa, hY]; exact blk_alloc_at _ _ _ rfl
  have HC0 := Lib.hid (show Chg (fun i => base ≤ i) w wa from hc0.mono fun (i : Nat) _ (h : False) => h.elim)
  have HT0 := Lib.hid (hT.add (u := blkT Y (opO kd nn k (.slice ob n bc) st)) hbs hc0 hyb (fun i hi => by
    have hi : i = Y := hi
    omega))
  have HBS := Lib.hid (Nat.le_trans hbs hc0.size)
  have hbx : blk wa X = some (mkO b b' pv sz dn) := HT0.out.mem (t := blkT X (mkO b b' pv sz dn)) (by simp)
  have x3 := cell_of_blk hbx 3
  have x3z := frozen_of_blk hbx 3
  have xl := blk_lt hbx
  have y3 := cell_of_blk hyb 3
  have y4 := cell_of_blk hyb 4
  have K1 := Lib.hid (HT0.out.setX (i := 3) (x := .int .i64 z1) (sz' := z1) (dn' := dn) HBS.out (by simp [objSet]))
  rw [← hwa, ← hY]
  clear hwa hY hc0 hT hyb hbs hbx
  go_region
  all_goals
    obtain ⟨w1, hw1⟩ : ∃ w1, w1 = (wa.setCell ⟨X, 3, none⟩ (.int .i64 z1)).drew := ⟨_, rfl⟩
    have hc1 : Chg (fun _ => False) (wa.setCell ⟨X, 3, none⟩ (.int .i64 z1)) w1 := by rw [hw1]; exact (Chg.refl _ _).drew
    rw [← hw1]
    have HT1 := Lib.hid (K1.out.1.still hc1)
    have HC1 := Lib.hid (HC0.out.trans (K1.out.2.trans hc1 fun _ _ h => h.elim) fun _ _ h => h)
    have HB1 := Lib.hid (Nat.le_trans HBS0.out HC1.out.size)
    clear hw1 hc1 x3 x3z xl y3 y4 hz0 hz1 K1
    by_cases h10 : kd = 10
    · subst h10
      have K2 := Lib.hid (HT1.out.setX (i := 4) (x := .int .i64 d1) (sz' := z1) (dn' := d1) HB1.out (by simp [objSet]))
      have hbx : blk w1 X = some (mkO b b' pv z1 dn) := HT1.out.mem (t := blkT X (mkO b b' pv z1 dn)) (by simp)
      have hby : blk w1 Y = some (opO 10 nn k (.slice ob n bc) st) := HT1.out.mem (t := blkT Y (opO 10 nn k (.slice ob n bc) st)) (by simp)
      have u3 := cell_of_blk hbx 3
      have u4 := cell_of_blk hbx 4
      have u3z := frozen_of_blk hbx 3
      have u4z := frozen_of_blk hbx 4
      have ul := blk_lt hbx
      have v0 := cell_of_blk hby 0
      have v2 := cell_of_blk hby 2
      clear hbx hby
      go_upto_region 6 with (fail)
      obtain ⟨w2, hw2⟩ : ∃ w2, w2 = w1.setCell ⟨X, 4, none⟩ (.int .i64 d1) := ⟨_, rfl⟩
      rw [← hw2] at K2 ⊢
      have HT2 := Lib.hid K2.out.1
      have HC2 := Lib.hid (HC1.out.trans K2.out.2 fun _ _ h => h)
      clear hw2 u3 u4 u3z u4z ul v0 v2 K2 hd1
      have hbx : blk w2 X = some (mkO b b' pv z1 d1) := HT2.out.mem (t := blkT X (mkO b b' pv z1 d1)) (by simp)
      have hby : blk w2 Y = some (opO 10 nn k (.slice ob n bc) st) := HT2.out.mem (t := blkT Y (opO 10 nn k (.slice ob n bc) st)) (by simp)
      have u3 := cell_of_blk hbx 3
      have u4 := cell_of_blk hbx 4
      have u3z := frozen_of_blk hbx 3
      have u4z := frozen_of_blk hbx 4
      have ul := blk_lt hbx
      have v0 := cell_of_blk hby 0
      have v2 := cell_of_blk hby 2
      clear hbx hby
      have FIN := Lib.hid (show (∃ sz' dn', Maker base w2 B bs X b b' s pl sz' dn' R) ∧ Chg (fun i => base ≤ i) w w2 from ⟨⟨z1, d1, pv, HT2.out.sub (List.sublist_cons_self _ _)⟩, HC2.out⟩)
      by_cases g1 : 150000 < z1
      · go_wp2
        go_ret
        exact ⟨_, rfl, FIN.out⟩
      · by_cases g2 : 8 < d1
        · go_wp2
          go_ret
          exact ⟨_, rfl, FIN.out⟩
        · go_wp2
          go_ret
          exact ⟨_, rfl, FIN.out⟩
    · have g10 : (kd == 10) = false := beq_eq_false_iff_ne.2 h10
      by_cases h13 : kd = 13
      · subst h13
        clear h10
        have hpb := pickI_bd k 300 (by omega)
        obtain ⟨P, hP⟩ : ∃ P, P = pickI k 300 := ⟨_, rfl⟩
        have HPK := Lib.hid (fun (wy : World) => (show Calls Tryd.prog 15 #[.int .i64 k, .int .i64 300] wy fun e w' => e = .returned (.int .i64 P) ∧ wy = w' by rw [hP]; exact pick_any k 300 HKK.out (by omega) (by omega) _))
        obtain ⟨z2, hz2⟩ : ∃ z2, IntKind.i64.wrap (50 * P) = z2 := ⟨_, rfl⟩
        obtain ⟨z3, hz3⟩ : ∃ z3, IntKind.i64.wrap (z1 + z2) = z3 := ⟨_, rfl⟩
        have K2 := Lib.hid (fun (wy : World) (h : Chg (fun _ => False) w1 wy) => (HT1.out.still h).setX (i := 3) (x := .int .i64 z3) (sz' := z3) (dn' := dn) (Nat.le_trans HB1.out h.size) (by simp [objSet]))
        clear hP hpb hd1
        have hbx : blk w1 X = some (mkO b b' pv z1 dn) := HT1.out.mem (t := blkT X (mkO b b' pv z1 dn)) (by simp)
        have hby : blk w1 Y = some (opO 13 nn k (.slice ob n bc) st) := HT1.out.mem (t := blkT Y (opO 13 nn k (.slice ob n bc) st)) (by simp)
        have u3 := cell_of_blk hbx 3
        have u4 := cell_of_blk hbx 4
        have u3z := frozen_of_blk hbx 3
        have u4z := frozen_of_blk hbx 4
        have ul := blk_lt hbx
        have v0 := cell_of_blk hby 0
        have v2 := cell_of_blk hby 2
        clear hbx hby
        go_upto_region 5 with (fail)
        go_region_with (go_at_call 15; refine (HPK.out _).mono ?_; rintro e w' ⟨rfl, rfl⟩)
        all_goals
          obtain ⟨w2, hw2⟩ : ∃ w2, w2 = (w1.setCell ⟨X, 3, none⟩ (.int .i64 z3)).drew := ⟨_, rfl⟩
          have k2 := K2.out w1 (Chg.refl _ _)
          have hc2 : Chg (fun _ => False) (w1.setCell ⟨X, 3, none⟩ (.int .i64 z3)) w2 := by rw [hw2]; exact (Chg.refl _ _).drew
          rw [← hw2]
          have HT2 := Lib.hid (k2.1.still hc2)
          have HC2 := Lib.hid (HC1.out.trans (k2.2.trans hc2 fun _ _ h => h.elim) fun _ _ h => h)
          clear hw2 hc2 k2 u3 u4 u3z u4z ul v0 v2 hz2 hz3
          have hbx : blk w2 X = some (mkO b b' pv z3 dn) := HT2.out.mem (t := blkT X (mkO b b' pv z3 dn)) (by simp)
          have hby : blk w2 Y = some (opO 13 nn k (.slice ob n bc) st) := HT2.out.mem (t := blkT Y (opO 13 nn k (.slice ob n bc) st)) (by simp)
          have u3 := cell_of_blk hbx 3
          have u4 := cell_of_blk hbx 4
          have u3z := frozen_of_blk hbx 3
          have u4z := frozen_of_blk hbx 4
          have ul := blk_lt hbx
          have v0 := cell_of_blk hby 0
          have v2 := cell_of_blk hby 2
          clear hbx hby
          have FIN := Lib.hid (show (∃ sz' dn', Maker base w2 B bs X b b' s pl sz' dn' R) ∧ Chg (fun i => base ≤ i) w w2 from ⟨⟨z3, dn, pv, HT2.out.sub (List.sublist_cons_self _ _)⟩, HC2.out⟩)
          by_cases g1 : 150000 < z3
          · go_wp2
            go_ret
            exact ⟨_, rfl, FIN.out⟩
          · by_cases g2 : 8 < dn
            · go_wp2
              go_ret
              exact ⟨_, rfl, FIN.out⟩
            · go_wp2
              go_ret
              exact ⟨_, rfl, FIN.out⟩
      · have g13 : (kd == 13) = false := beq_eq_false_iff_ne.2 h13
        clear h10 h13 hd1
        have hbx : blk w1 X = some (mkO b b' pv z1 dn) := HT1.out.mem (t := blkT X (mkO b b' pv z1 dn)) (by simp)
        have hby : blk w1 Y = some (opO kd nn k (.slice ob n bc) st) := HT1.out.mem (t := blkT Y (opO kd nn k (.slice ob n bc) st)) (by simp)
        have u3 := cell_of_blk hbx 3
        have u4 := cell_of_blk hbx 4
        have u3z := frozen_of_blk hbx 3
        have u4z := frozen_of_blk hbx 4
        have ul := blk_lt hbx
        have v0 := cell_of_blk hby 0
        have v2 := cell_of_blk hby 2
        clear hbx hby
        have FIN := Lib.hid (show (∃ sz' dn', Maker base w1 B bs X b b' s pl sz' dn' R) ∧ Chg (fun i => base ≤ i) w w1 from ⟨⟨z1, dn, pv, HT1.out.sub (List.sublist_cons_self _ _)⟩, HC1.out⟩)
        by_cases g1 : 150000 < z1
        · go_wp2
          go_ret
          exact ⟨_, rfl, FIN.out⟩
        · by_cases g2 : 8 < dn
          · go_wp2
            go_ret
            exact ⟨_, rfl, FIN.out⟩
          · go_wp2
            go_ret
            exact ⟨_, rfl, FIN.out⟩
end Go.Proofs.YtfihpiommicdbaaDoor
