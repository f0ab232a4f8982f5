/- MemoryMany: many memories made one behind the other have each its own bytes: for every number and every start. No condition. -/
import Derived.Test.YtenbkdmaiooldaaMemG
import Derived.Maps.AppendAt
namespace Go.Proofs.Ytenbkdmaiooldaa
open Go.RowKit Go.Cl
open Go.Maps (Keyed)
open Go.ChangeMaps (setBlock)
set_option linter.unusedVariables false
set_option linter.unusedSimpArgs false
attribute [local go_sem] lt_add_one' blk_alloc_past blk_alloc_at blk_drew blk_setCell_ne blk_setBlock_ne blk_setBlock_eq cell_setBlock_ne frozen_setBlock_ne size_setBlock

theorem wordOf_congr {h h' : Nat → Int} : ∀ n, (∀ j, j < n → h j = h' j) → wordOf h n = wordOf h' n
  | 0, _ => rfl
  | n + 1, e => by
    simp only [wordOf]
    rw [wordOf_congr n (fun j hj => e j (by omega)), e n (by omega)]

theorem word_put (f : Nat → Int) (a n : Nat) (bs : Nat → Int) : wordOf (fun j => put f a n bs (a + j)) n = wordOf bs n := wordOf_congr n fun j hj => by
  unfold put
  rw [if_pos (by omega)]
  congr 1
  omega

theorem word_bytes {v : Int} (hv : 0 ≤ v ∧ v < 4294967296) : wordOf (byteOf v) 4 = v := by
  simp only [wordOf, byteOf]
  omega

/-- So many memories, each with a word of its own. -/
structure Many (w : World) (B : Nat) (Ts : List Nat) (v : Int) : Prop where
  each : ∀ j (h : j < Ts.length), ∃ m pg f, MemIs w Ts[j] m pg (1 + j % 7) f ∧ wordOf (fun i => f (8 + i)) 4 = IntKind.u32.wrap (v + j) ∧ ∀ i, Foot Ts[j] m pg i → B ≤ i

theorem Many.frame {S : Nat → Prop} {w w' : World} {B : Nat} {Ts : List Nat} {v : Int} (h : Many w B Ts v) (hc : Chg S w w') (hs : ∀ b m pg pages f, MemIs w b m pg pages f → ∀ i, Foot b m pg i → ¬ S i) : Many w' B Ts v :=
  ⟨fun j hj => by obtain ⟨m, pg, f, h1, h2⟩ := h.each j hj; exact ⟨m, pg, f, h1.frame hc (hs _ _ _ _ _ h1), h2⟩⟩

theorem Many.snoc {w : World} {B : Nat} {Ts : List Nat} {v : Int} (h : Many w B Ts v) {b m : Nat} {pg : List (Nat × Nat)} {f : Nat → Int} (ht : MemIs w b m pg (1 + Ts.length % 7) f) (hw : wordOf (fun i => f (8 + i)) 4 = IntKind.u32.wrap (v + Ts.length)) (hB : ∀ i, Foot b m pg i → B ≤ i) : Many w B (Ts ++ [b]) v := by
  refine ⟨fun j hj => ?_⟩
  by_cases hl : j < Ts.length
  · obtain ⟨m, pg, f, h1⟩ := h.each j hl
    rw [List.getElem_append_left hl]
    exact ⟨m, pg, f, h1⟩
  · have : j = Ts.length := by simp at hj; omega
    subst this
    simp only [List.getElem_append_right (Nat.le_refl _), Nat.sub_self, List.getElem_cons_zero]
    exact ⟨m, pg, f, ht, hw, hB⟩

/-- A row's block is no memory's (rows of pointers). -/
theorem row_mem {w : World} {base : Nat} {sz : Nat} {v : Value} {n : Nat} {xs : List Value} {e : TypeId} (he : e ≠ 98 ∧ e ≠ 116) (h : w.ownsRow base e sz v n xs) {b m : Nat} {pg : List (Nat × Nat)} {pages : Nat} {f : Nat → Int} (ht : MemIs w b m pg pages f) : ∀ i, Foot b m pg i → ¬ some i = v.ownBlock := by
  rintro i hi hs
  obtain ⟨_, cur, hc⟩ := row_block h hs.symm
  rcases hi with rfl | rfl | hi
  · rw [ht.st] at hc
    simp only [Option.some.injEq, Obj.cells.injEq] at hc
    exact he.1 hc.2.1.symm
  · obtain ⟨es, clock, hb, _⟩ := ht.mp
    have h2 : blk w i = some (.map es clock) := hb
    rw [h2] at hc
    cases hc
  · obtain ⟨q, hq, rfl⟩ := List.mem_map.1 hi
    rw [ht.pgs q hq] at hc
    simp only [Option.some.injEq, Obj.cells.injEq] at hc
    exact he.2 hc.2.1.symm

theorem info24 : (Try.prog.info? 24).map (fun i => (i.zero, i.size, i.bytes)) = some (some (.pointer none), 1, 8) := by kernel_rfl

set_option maxHeartbeats 1000000 in
set_option maxRecDepth 100000 in
theorem many_walk (a0 : Int) (w0 : (Lit.int .i64 a0).wf = true) (a1 : Int) (w1 : (Lit.int .u32 a1).wf = true) (w : World) :
    Calls Try.prog 4 #[.int .i64 a0, .int .u32 a1] w fun e w' => e = .returned (.bool true) ∧ Below w.heap.size w w' := by
  have ha : I64 a0 := by simp [Lit.wf, IntKind.min, IntKind.max, IntKind.signed, IntKind.bits] at w0; unfold I64; omega
  have hv0 : 0 ≤ a1 := by simp [Lit.wf, IntKind.min, IntKind.max, IntKind.signed, IntKind.bits] at w1; omega
  have hv1 : a1 ≤ 4294967295 := by simp [Lit.wf, IntKind.min, IntKind.max, IntKind.signed, IntKind.bits] at w1; omega
  clear w0 w1
  have hp := pick_any a0 100 ha (by omega) (by omega)
  have bp := pickI_bd a0 100 (by omega)
  obtain ⟨n, hn⟩ : ∃ n : Nat, pickI a0 100 = n := ⟨(pickI a0 100).toNat, by omega⟩
  rw [hn] at hp bp
  obtain ⟨bp, bp'⟩ := bp
  clear hn
  obtain ⟨i0, hi, hz0, hz1, hz2⟩ := info_parts info24
  go_enter Try.func4, Try.ntmps4
  go_wp2_with fail
  refine (works_ok _).mono ?_
  rintro e wa ⟨rfl, ga⟩
  have GA := Lib.hid ga
  clear ga
  go_wp2_with fail
  refine (hp _).mono ?_
  rintro e wb ⟨rfl, rfl⟩
  go_wp2
  go_loopg [7, 8] (n + 1) (fun g s7 s8 wr => ∃ (k : Nat) (Ts : List Nat), k + g = n + 1 ∧ s8 = .int .i64 k ∧ Aside (Ts.length = k) ∧ Many wr w.heap.size Ts a1 ∧ wr.ownsRow w.heap.size 24 1 s7 k (Ts.map ptrV) ∧ Below w.heap.size w wr)
  case atStart => exact ⟨0, [], by omega, rfl, rfl, ⟨by simp⟩, ⟨rfl, .inl ⟨rfl, rfl⟩⟩, GA.out.below (Nat.le_refl _) (by simp)⟩
  case round =>
    obtain ⟨k, Ts, hkg, rfl, hl, hM, hrow, hB⟩ := hrel
    have KG := Lib.hid hkg
    have HB := Lib.hid hB
    have HM := Lib.hid hM
    have hsz := hB.size
    clear hB hM
    cases gk with
    | zero =>
      have hkn : ¬ ((k : Int) < 1 + (n : Int)) := by omega
      clear hkg
      go_wp2
      have hkn2 : k = n + 1 := by have := KG.out; omega
      obtain ⟨g0, cap, hv, hcap, hmax, hcells⟩ := row_cell hrow (by omega)
      have HR := Lib.hid hrow
      have HC := Lib.hid hcells
      have HK := Lib.hid hkn2
      rw [hv]
      clear hrow hv hcells hkn2 hkn hsz
      unfold maxLen at hmax
      go_loopg [11] (n + 1) (fun g s11 wx => ∃ j : Nat, j + g = n + 1 ∧ s11 = .int .i64 j ∧ Chg (fun _ => False) wr wx)
      case atStart => exact ⟨0, by omega, rfl, Chg.refl _ _⟩
      case round =>
        obtain ⟨j, hjg, rfl, hC2⟩ := hrel
        have HC2 := Lib.hid hC2
        have JG := Lib.hid hjg
        clear hC2
        cases gk with
        | zero =>
          have hjn : ¬ ((j : Int) < 1 + (n : Int)) := by omega
          clear hjg
          go_wp2
          go_ret
          exact ⟨rfl, HB.out.trans (HC2.out.below HB.out.size (by simp))⟩
        | succ g =>
          have hjn : (j : Int) < 1 + (n : Int) := by omega
          have hjk : j < k := by have := HK.out; omega
          clear hjg
          have hjl : j < Ts.length := by rw [hl.out]; exact hjk
          obtain ⟨m, pg, f, hT, hW, -⟩ := (HM.out.frame HC2.out (fun _ _ _ _ _ _ _ _ => id)).each j hjl
          have h0 := HC.out j _ (by rw [List.getElem?_map, List.getElem?_eq_getElem hjl]; rfl)
          have hcell := fun (wy : World) (hc : Chg (fun _ => False) _ wy) => (World.cell?_of_block (hc.block g0 (World.block_lt_of_cell? _ _ h0) id)).trans h0
          simp only [ptrV] at hcell
          clear h0
          have hcell1 := hcell _ HC2.out
          have HCE := Lib.hid hcell
          generalize Ts[j] = b at *
          have HT := Lib.hid hT
          have HW := Lib.hid hW
          clear hT hW hcell
          go_wp2_with fail
          refine (load_ok HT.out (a := 8) (n := 4) (by omega) (by
            unfold wordE placeE
            have h1 : j % 7 < 7 := Nat.mod_lt _ (by omega)
            rw [if_neg (by omega), if_neg (by omega), if_neg (by omega), if_neg (by omega)])).mono ?_
          rintro e w2 ⟨rfl, g2⟩
          rw [HW.out]
          have c2 := HC2.out.trans g2 fun _ _ => id
          have hcell2 := HCE.out _ c2
          have g0l := World.block_lt_of_cell? _ _ hcell2
          have LL := pages_ok (HT.out.frame g2 fun _ _ => id)
          have L3 := Lib.hid LL
          have C2 := Lib.hid c2
          clear LL c2 g2
          go_wp2_with fail
          refine L3.out.mono ?_
          rintro e w3 ⟨rfl, rfl⟩
          go_wp2
          go_roundg g
          case measure => omega
          case rel => exact ⟨j + 1, by have := JG.out; omega, by go_num, C2.out⟩
    | succ g =>
      have hkn : (k : Int) < 1 + (n : Int) := by omega
      clear hkg
      have h7 : k % 7 < 7 := Nat.mod_lt _ (by omega)
      go_wp2_with fail
      refine (new_ok (1 + k % 7) (by omega) (by omega) _).mono ?_
      rintro e wn ⟨b, m, rfl, h1, hb, hm, g1⟩
      have BB := Lib.hid (And.intro hb hm)
      have H1 := Lib.hid h1
      have G1 := Lib.hid g1
      clear hb hm h1 g1
      unfold ptrV
      go_wp2_with fail
      refine (store_ok H1.out (a := 8) (n := 4) (v := IntKind.u32.wrap (a1 + k)) (by rw [IntKind.wrap_u32]; omega) (by omega) (by
        unfold wordE placeE
        rw [if_neg (by omega), if_neg (by omega), if_neg (by omega), if_neg (by omega)])).mono ?_
      rintro e wq ⟨rfl, pg, h2, g2, f2⟩
      have H2 := Lib.hid h2
      have G2 := Lib.hid g2
      have F2 := Lib.hid f2
      clear h2 g2 f2
      have cA := G1.out.trans (S := fun _ => False) G2.out (by
        rintro i hi (rfl | rfl | h)
        · have := BB.out; omega
        · have := BB.out; omega
        · simp at h)
      have hrq : wq.ownsRow w.heap.size 24 1 u7 k (Ts.map ptrV) := row_frame hrow cA (fun _ _ => id)
      have CA := Lib.hid cA
      have HR := Lib.hid hrow
      clear hrow cA
      go_wp2_with (at_builtin; refine wpList_append_own _ rfl _ _ 34 rfl w.heap.size 24 i0 (.pointer none) 1 8 Try.underlying34 hi hz0 hz1 hz2 rfl (by decide) _ _ _ rfl (hrq.alloc _) ⟨wq.heap.size, 0, none⟩ 1 1 [ptrV b] rfl rfl ?_ ?_ ?_ ?_ ?_ ?_)
      · exact Go.cell_one_new _ _ _
      · intro u hu
        simp at hu
        subst hu
        rfl
      · unfold maxLen; omega
      · omega
      · have := CA.out.size
        simp
        omega
      · intro v' w' hown hgrow hnn
        have HO := Lib.hid hown
        have HGr := Lib.hid hgrow
        clear hown hgrow hnn
        go_wp2
        go_roundg g
        case measure => omega
        case rel =>
          have cB : Chg (fun i => some i = u7.ownBlock) wq w' := (Chg.of_grown HGr.out |>.mono (fun i _ h => h)) |> fun h => Chg.trans (S := fun i => some i = u7.ownBlock) ((Chg.refl _ _).alloc _) h (fun i _ h => h)
          have hMw := (HM.out.frame CA.out (fun _ _ _ _ _ _ _ _ => id)).frame cB (fun b m pg pages f h => row_mem (by decide) hrq h)
          have hT := H2.out.frame cB (row_mem (by decide) hrq H2.out)
          have hl' := hl.out
          have kg := KG.out
          have bb := BB.out
          refine ⟨k + 1, Ts ++ [b], by omega, by go_num, by show (Ts ++ [b]).length = k + 1; simp [hl'], hMw.snoc (m := m) (pg := pg) (f := put (fun _ => 0) 8 4 (byteOf (IntKind.u32.wrap (a1 + k)))) ?_ ?_ ?_, ?_, HB.out.trans ?_⟩
          · rw [hl']
            exact hT
          · rw [word_put, word_bytes (by rw [IntKind.wrap_u32]; omega), hl']
          · intro i hi
            rcases F2.out i hi with (rfl | rfl | h) | h
            · omega
            · omega
            · simp at h
            · have := G1.out.size
              omega
          · rw [List.map_append]
            exact HO.out
          · refine Chg.below (S := fun i => some i = u7.ownBlock) (CA.out.step cB (fun i _ h => h.elim) (fun i _ h => h)) hsz (fun i hi h => ?_)
            have := (row_block hrq h.symm).1
            omega
end Go.Proofs.Ytenbkdmaiooldaa
