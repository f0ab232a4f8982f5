/- TLBMany: many TLBs made one behind the other have each its own slots: for every number and every start. No condition. -/
import Derived.Test.YtoglgkplddlemaaTlbD
import Derived.Maps.AppendAt
namespace Go.Proofs.Ytoglgkplddlemaa
open Go.RowKit Go.Cl
open Go.Maps (Keyed)
open Go.ChangeMaps (setBlock)
set_option linter.unusedVariables false
set_option linter.unusedSimpArgs false
attribute [local go_sem] lt_add_one' blk_alloc_past blk_alloc_at blk_drew blk_setCell_ne blk_setBlock_ne blk_setBlock_eq cell_setBlock_ne frozen_setBlock_ne size_setBlock

def ptrV (b : Nat) : Value := .pointer (some ⟨b, 0, none⟩)

/-- So many TLBs, each with one slot taken, none of whose blocks are another's. -/
structure Many (w : World) (B : Nat) (Ts : List (Nat × Nat)) (v : Int) (used : Nat) : Prop where
  each : ∀ j (h : j < Ts.length), ∃ u now, now ≤ 5 + (used : Int) ∧ TlbIs w Ts[j].1 Ts[j].2 (1 + (j : Int) % 64) now [⟨1, 7, IntKind.u32.wrap (v + j), 0, u⟩]
  apart : ∀ i j (hi : i < Ts.length) (hj : j < Ts.length), i ≠ j → Ts[i].1 ≠ Ts[j].1 ∧ Ts[i].2 ≠ Ts[j].2
  low : ∀ j (h : j < Ts.length), B ≤ Ts[j].1 ∧ B ≤ Ts[j].2

theorem tlb_kinds {w : World} {b m b' m' : Nat} {sl now sl' now' : Int} {L L' : List En} (h : TlbIs w b m sl now L) (h' : TlbIs w b' m' sl' now' L') : b ≠ m' := by
  intro e
  obtain ⟨es, clock, hb, _⟩ := h'.mp
  have h1 := h.st
  rw [e] at h1
  have h2 : blk w m' = some (.map es clock) := hb
  rw [h1] at h2
  cases h2

theorem Many.frame {S : Nat → Prop} {w w' : World} {B : Nat} {Ts : List (Nat × Nat)} {v : Int} {k : Nat} (h : Many w B Ts v k) (hc : Chg S w w') (hs : ∀ j (h : j < Ts.length), ¬ S Ts[j].1 ∧ ¬ S Ts[j].2) : Many w' B Ts v k :=
  ⟨fun j hj => by obtain ⟨u, now, h1, h2⟩ := h.each j hj; exact ⟨u, now, h1, h2.frame hc (hs j hj).1 (hs j hj).2⟩, h.apart, h.low⟩

theorem Many.lt {w : World} {B : Nat} {Ts : List (Nat × Nat)} {v : Int} {k : Nat} (h : Many w B Ts v k) : ∀ j (h : j < Ts.length), Ts[j].1 < w.heap.size ∧ Ts[j].2 < w.heap.size := fun j hj => by
  obtain ⟨u, now, h1, h2⟩ := h.each j hj
  exact ⟨h2.facts.2.2.1, h2.facts.2.2.2.1⟩

theorem Many.mono {w : World} {B : Nat} {Ts : List (Nat × Nat)} {v : Int} {k k' : Nat} (h : Many w B Ts v k) (hk : k ≤ k') : Many w B Ts v k' :=
  ⟨fun j hj => by obtain ⟨u, now, h1, h2⟩ := h.each j hj; exact ⟨u, now, by omega, h2⟩, h.apart, h.low⟩

/-- One of them is used. -/
theorem Many.used {w w' : World} {B : Nat} {Ts : List (Nat × Nat)} {v : Int} {k : Nat} (h : Many w B Ts v k) {i : Nat} (hi : i < Ts.length) {u now : Int} (hc : Chg (fun x => x = Ts[i].1 ∨ x = Ts[i].2) w w') (hn : now ≤ 5 + (k : Int) + 1)
    (ht : TlbIs w' Ts[i].1 Ts[i].2 (1 + (i : Int) % 64) now [⟨1, 7, IntKind.u32.wrap (v + i), 0, u⟩]) : Many w' B Ts v (k + 1) := by
  refine ⟨fun j hj => ?_, h.apart, h.low⟩
  by_cases hij : i = j
  · subst hij
    exact ⟨u, now, by omega, ht⟩
  · obtain ⟨u', now', h1, h2⟩ := h.each j hj
    obtain ⟨u'', now'', h1', h2'⟩ := h.each i hi
    have a1 := h.apart i j hi hj hij
    have a2 := tlb_kinds h2 h2'
    have a3 := tlb_kinds h2' h2
    exact ⟨u', now', by omega, h2.frame hc (by omega) (by omega)⟩

/-- One more. -/
theorem Many.snoc {w : World} {B : Nat} {Ts : List (Nat × Nat)} {v : Int} {k : Nat} (h : Many w B Ts v k) {b m : Nat} {u now : Int} (hn : now ≤ 5 + (k : Int)) (ht : TlbIs w b m (1 + (Ts.length : Int) % 64) now [⟨1, 7, IntKind.u32.wrap (v + Ts.length), 0, u⟩])
    (hnew : ∀ j (h : j < Ts.length), Ts[j].1 < b ∧ Ts[j].1 < m ∧ Ts[j].2 < b ∧ Ts[j].2 < m) (hB : B ≤ b ∧ B ≤ m) : Many w B (Ts ++ [(b, m)]) v k := by
  refine ⟨fun j hj => ?_, fun i j hi hj hij => ?_, fun j hj => ?_⟩
  · by_cases hl : j < Ts.length
    · obtain ⟨u, now, h1, h2⟩ := h.each j hl
      rw [List.getElem_append_left hl]
      exact ⟨u, now, h1, h2⟩
    · have : j = Ts.length := by simp at hj; omega
      subst this
      simp only [List.getElem_append_right (Nat.le_refl _), Nat.sub_self, List.getElem_cons_zero]
      exact ⟨u, now, hn, ht⟩
  · simp only [List.length_append, List.length_cons, List.length_nil] at hi hj
    by_cases h1 : i < Ts.length <;> by_cases h2 : j < Ts.length
    · rw [List.getElem_append_left h1, List.getElem_append_left h2]
      exact h.apart i j h1 h2 hij
    · have : j = Ts.length := by omega
      subst this
      rw [List.getElem_append_left h1]
      simp only [List.getElem_append_right (Nat.le_refl _), Nat.sub_self, List.getElem_cons_zero]
      have := hnew i h1
      omega
    · have : i = Ts.length := by omega
      subst this
      rw [List.getElem_append_left h2]
      simp only [List.getElem_append_right (Nat.le_refl _), Nat.sub_self, List.getElem_cons_zero]
      have := hnew j h2
      omega
    · omega
  · by_cases hl : j < Ts.length
    · rw [List.getElem_append_left hl]
      exact h.low j hl
    · have : j = Ts.length := by simp at hj; omega
      subst this
      simp only [List.getElem_append_right (Nat.le_refl _), Nat.sub_self, List.getElem_cons_zero]
      exact hB

theorem row_tlb {w : World} {base : Nat} {sz : Nat} {v : Value} {n : Nat} {xs : List Value} (h : w.ownsRow base 25 sz v n xs) {b m : Nat} {sl now : Int} {L : List En} (ht : TlbIs w b m sl now L) : ¬ some b = v.ownBlock ∧ ¬ some m = v.ownBlock := by
  constructor
  · intro e
    obtain ⟨_, cur, hc⟩ := row_block h e.symm
    rw [ht.st] at hc
    cases hc
  · intro e
    obtain ⟨_, cur, hc⟩ := row_block h e.symm
    obtain ⟨es, clock, hb, _⟩ := ht.mp
    have h2 : blk w m = some (.map es clock) := hb
    rw [h2] at hc
    cases hc

theorem info25 : (Try.prog.info? 25).map (fun i => (i.zero, i.size, i.bytes)) = some (some (.pointer none), 1, 8) := by kernel_rfl

set_option maxHeartbeats 1000000 in
set_option maxRecDepth 100000 in
theorem many_walk (a0 : Int) (w0 : (Lit.int .i64 a0).wf = true) (a1 : Int) (w1 : (Lit.int .u32 a1).wf = true) (w : World) :
    Calls Try.prog 4 #[.int .i64 a0, .int .u32 a1] w fun e w' => e = .returned (.bool true) ∧ Below w.heap.size w w' := by
  have ha : I64 a0 := by simp [Lit.wf, IntKind.min, IntKind.max, IntKind.signed, IntKind.bits] at w0; unfold I64; omega
  have hv0 : 0 ≤ a1 := by simp [Lit.wf, IntKind.min, IntKind.max, IntKind.signed, IntKind.bits] at w1; omega
  have hv1 : a1 ≤ 4294967295 := by simp [Lit.wf, IntKind.min, IntKind.max, IntKind.signed, IntKind.bits] at w1; omega
  clear w0 w1
  have hp := pick_any a0 100 ha (by omega) (by omega)
  have bp := pickI_bd a0 100 (by omega)
  obtain ⟨n, hn⟩ : ∃ n : Nat, pickI a0 100 = n := ⟨(pickI a0 100).toNat, by omega⟩
  rw [hn] at hp bp
  obtain ⟨bp, bp'⟩ := bp
  clear hn
  obtain ⟨i0, hi, hz0, hz1, hz2⟩ := info_parts info25
  go_enter Try.func4, Try.ntmps4
  go_wp2_with fail
  refine (works_ok _).mono ?_
  rintro e wa ⟨rfl, ga⟩
  have GA := Lib.hid ga
  clear ga
  go_wp2_with fail
  refine (hp _).mono ?_
  rintro e wb ⟨rfl, rfl⟩
  go_wp2
  go_loopg [7, 8] (n + 1) (fun g s7 s8 wr => ∃ (k : Nat) (Ts : List (Nat × Nat)), k + g = n + 1 ∧ s8 = .int .i64 k ∧ Aside (Ts.length = k) ∧ Many wr w.heap.size Ts a1 0 ∧ wr.ownsRow w.heap.size 25 1 s7 k (Ts.map fun t => ptrV t.1) ∧ Below w.heap.size w wr)
  case atStart => exact ⟨0, [], by omega, rfl, rfl, ⟨by simp, by simp, by simp⟩, ⟨rfl, .inl ⟨rfl, rfl⟩⟩, GA.out.below (Nat.le_refl _) (by simp)⟩
  case round =>
    obtain ⟨k, Ts, hkg, rfl, hl, hM, hrow, hB⟩ := hrel
    have KG := Lib.hid hkg
    have HB := Lib.hid hB
    have HM := Lib.hid hM
    have hsz := hB.size
    clear hB hM
    cases gk with
    | zero =>
      have hkn : ¬ ((k : Int) < 1 + (n : Int)) := by omega
      clear hkg
      go_wp2
      have hkn2 : k = n + 1 := by have := KG.out; omega
      obtain ⟨g0, cap, hv, hcap, hmax, hcells⟩ := row_cell hrow (by omega)
      have HR := Lib.hid hrow
      have HV := Lib.hid hv
      have HC := Lib.hid hcells
      have HK := Lib.hid hkn2
      rw [hv]
      clear hrow hv hcells hkn2 hkn hsz
      unfold maxLen at hmax
      go_loopg [11] (n + 1) (fun g s11 wx => ∃ j : Nat, j + g = n + 1 ∧ s11 = .int .i64 j ∧ Many wx w.heap.size Ts a1 j ∧ wx.ownsRow w.heap.size 25 1 u7 k (Ts.map fun t => ptrV t.1) ∧ Below w.heap.size w wx)
      case atStart => exact ⟨0, by omega, rfl, HM.out, HR.out, HB.out⟩
      case round =>
        obtain ⟨j, hjg, rfl, hM2, hrow2, hB2⟩ := hrel
        have HB2 := Lib.hid hB2
        have HM2 := Lib.hid hM2
        have HR2 := Lib.hid hrow2
        have JG := Lib.hid hjg
        clear hB2 hM2 hrow2
        cases gk with
        | zero =>
          have hjn : ¬ ((j : Int) < 1 + (n : Int)) := by omega
          clear hjg
          go_wp2
          go_ret
          exact ⟨rfl, HB2.out⟩
        | succ g =>
          have hjn : (j : Int) < 1 + (n : Int) := by omega
          have hjk : j < k := by have := HK.out; omega
          clear hjg
          have hjl : j < Ts.length := by rw [hl.out]; exact hjk
          obtain ⟨u, now, hnow, hT⟩ := HM2.out.each j hjl
          have hcell : wr.cell? ⟨g0, j, none⟩ = some (.pointer (some ⟨Ts[j].1, 0, none⟩)) := by
            obtain ⟨g1, cap1, hv1, _, _, hc1⟩ := row_cell HR2.out (by omega)
            have e1 := hv1.symm.trans HV.out
            simp only [Value.slice.injEq, Option.some.injEq, Addr.mk.injEq, and_true] at e1
            obtain ⟨e1, -⟩ := e1
            subst e1
            exact hc1 j _ (by rw [List.getElem?_map, List.getElem?_eq_getElem hjl]; rfl)
          have hap := hT.ok
          obtain ⟨b, m, hbm⟩ : ∃ b m, Ts[j] = (b, m) := ⟨_, _, rfl⟩
          have HBM := Lib.hid hbm
          rw [hbm] at hcell hT
          clear hbm
          have HT := Lib.hid hT
          clear hT
          go_wp2_with fail
          have hj100 : (j : Int) ≤ 100 := by omega
          refine (look_ok HT.out (by unfold TagOk; omega) (by omega)).mono ?_
          rintro e w2 ⟨rfl, h2, g2⟩
          have e0 : hitE [⟨1, 7, IntKind.u32.wrap (a1 + j), 0, u⟩] 1 7 = some ⟨1, 7, IntKind.u32.wrap (a1 + j), 0, u⟩ := by simp [hitE, En.is]
          have e1 : lookV [⟨1, 7, IntKind.u32.wrap (a1 + j), 0, u⟩] 1 7 = .tuple #[.agg #[.int .u32 (IntKind.u32.wrap (a1 + j)), .int .u8 0], .bool true] := by simp [lookV, e0]
          have e2 : lookL [⟨1, 7, IntKind.u32.wrap (a1 + j), 0, u⟩] 1 7 now = [⟨1, 7, IntKind.u32.wrap (a1 + j), 0, now + 1⟩] := by simp [lookL, e0, bump, En.is]
          have e3 : lookNow [⟨1, 7, IntKind.u32.wrap (a1 + j), 0, u⟩] 1 7 now = now + 1 := by simp [lookNow, e0]
          rw [e2, e3] at h2
          rw [e1]
          clear e0 e1 e2 e3
          have c2 : Chg (fun x => x = Ts[j].1 ∨ x = Ts[j].2) wr w2 := by rw [HBM.out]; exact g2
          have M3 := HM2.out.used (u := now + 1) (now := now + 1) hjl c2 (by omega) (by rw [HBM.out]; exact h2)
          have R3 : w2.ownsRow w.heap.size 25 1 u7 k (Ts.map fun t => ptrV t.1) := row_frame HR2.out g2 (fun x hx h => by
            have := row_tlb HR2.out HT.out
            rw [hx] at this
            rcases h with h | h
            · exact this.1 (by rw [h])
            · exact this.2 (by rw [h]))
          have low := HM2.out.low j hjl
          rw [HBM.out] at low
          have B3 : Below w.heap.size w w2 := HB2.out.trans (g2.below HB2.out.size (fun i hi h => by omega))
          have hcell2 : w2.cell? ⟨g0, j, none⟩ = some (.pointer (some ⟨b, 0, none⟩)) := by
            obtain ⟨g1, cap1, hv1, _, _, hc1⟩ := row_cell R3 (by omega)
            have e1 := hv1.symm.trans HV.out
            simp only [Value.slice.injEq, Option.some.injEq, Addr.mk.injEq, and_true] at e1
            obtain ⟨e1, -⟩ := e1
            subst e1
            exact hc1 j _ (by rw [List.getElem?_map, List.getElem?_eq_getElem hjl, HBM.out]; rfl)
          have g0l := World.block_lt_of_cell? _ _ hcell2
          have LL := fun v : World => fun g : Chg (fun _ => False) w2 v => len_ok (h2.frame g (by simp) (by simp))
          have L3 := Lib.hid LL
          have MM := Lib.hid M3
          have RR := Lib.hid R3
          have BB3 := Lib.hid B3
          clear LL M3 R3 B3 h2 c2 g2 low
          go_wp2_with fail
          refine (L3.out _ ?_).mono ?_
          · repeat (first | exact Chg.refl _ _ | apply Chg.drew | (refine Chg.setCell ?_ (by simp) _) | (refine Chg.alloc ?_ _) | (refine Chg.setBlock ?_ (by simp) _))
          rintro e w3 ⟨rfl, rfl⟩
          go_wp2
          go_roundg g
          case measure => omega
          case rel =>
            have cc : ∀ x, Chg (fun _ => False) w2 (w2.alloc x) := fun x => (Chg.refl _ _).alloc _
            refine ⟨j + 1, by have := JG.out; omega, by go_num, MM.out.frame (cc _) (by simp), row_frame RR.out (cc _) (by simp), BB3.out.alloc (by have := BB3.out.size; omega) _⟩
    | succ g =>
      have hkn : (k : Int) < 1 + (n : Int) := by omega
      clear hkg
      have hm : (k : Int).tmod 64 = (k : Int) % 64 := Int.tmod_eq_emod_of_nonneg (by omega)
      clear hm
      go_wp2_with fail
      refine (new_ok (1 + (k : Int) % 64) (by omega) (by omega) _).mono ?_
      rintro e wn ⟨b, m, rfl, h1, hb, hm, g1⟩
      have BB := Lib.hid (And.intro hb hm)
      have H1 := Lib.hid h1
      have G1 := Lib.hid g1
      clear hb hm h1 g1
      go_wp2_with fail
      refine (put_ok H1.out (by unfold TagOk; omega) (by omega) (by omega)).mono ?_
      rintro e wq ⟨rfl, h2, g2⟩
      have H2 := Lib.hid h2
      have G2 := Lib.hid g2
      clear h2 g2
      have e2 : ∀ f : Int, putL [] (1 + (k : Int) % 64) 1 7 f 0 0 = ([⟨1, 7, f, 0, 1⟩], none) := by
        intro f
        have : (0 : Int) < 1 + (k : Int) % 64 := by omega
        simp [putL, hitE, bump, this]
      rw [e2]
      rw [e2] at H2
      clear e2
      -- the row, in the world behind New and Put
      have hrq : wq.ownsRow w.heap.size 25 1 u7 k (Ts.map fun t => ptrV t.1) := by
        have c1 : Chg (fun i => i = b ∨ i = m) wr wq := G1.out.step G2.out (fun i _ h => h.elim) (fun i _ h => h)
        refine hrow.kept (row := none) ⟨c1.os, c1.tape, c1.output, c1.size, fun i hi _ => c1.block i hi ?_⟩ (by
          cases h : u7.ownBlock with
          | none => exact .inl rfl
          | some x => exact .inr (by simp))
        have := BB.out
        omega
      have HR := Lib.hid hrow
      clear hrow
      go_wp2_with (at_builtin; refine wpList_append_own _ rfl _ _ 44 rfl w.heap.size 25 i0 (.pointer none) 1 8 Try.underlying44 hi hz0 hz1 hz2 rfl (by decide) _ _ _ rfl (hrq.alloc _) ⟨wq.heap.size, 0, none⟩ 1 1 [ptrV b] rfl rfl ?_ ?_ ?_ ?_ ?_ ?_)
      · exact Go.cell_one_new _ _ _
      · intro u hu
        simp at hu
        subst hu
        rfl
      · unfold maxLen; omega
      · omega
      · have := G1.out.size
        have := G2.out.size
        simp
        omega
      · intro v' w' hown hgrow hnn
        have HO := Lib.hid hown
        have HGr := Lib.hid hgrow
        clear hown hgrow hnn
        go_wp2
        go_roundg g
        case measure => omega
        case rel =>
          have cA : Chg (fun i => i = b ∨ i = m) wr wq := G1.out.step G2.out (fun i _ h => h.elim) (fun i _ h => h)
          have cB : Chg (fun i => some i = u7.ownBlock) wq w' := (Chg.of_grown HGr.out |>.mono (fun i _ h => h)) |> fun h => Chg.trans (S := fun i => some i = u7.ownBlock) ((Chg.refl _ _).alloc _) h (fun i _ h => h)
          have bb := BB.out
          have hlt := HM.out.lt
          have hMq := HM.out.frame cA (fun j hj => by have := hlt j hj; omega)
          have hMw := hMq.frame cB (fun j hj => by
            obtain ⟨u, now, h1, h2⟩ := hMq.each j hj
            exact row_tlb hrq h2)
          have hT := H2.out.frame cB (row_tlb hrq H2.out).1 (row_tlb hrq H2.out).2
          have hl' := hl.out
          have kg := KG.out
          refine ⟨k + 1, Ts ++ [(b, m)], by omega, by go_num, by show (Ts ++ [(b, m)]).length = k + 1; simp [hl'], hMw.snoc (u := 1) (now := 0 + 1) (by simp) ?_ (fun j hj => by have := hlt j hj; omega) (by omega), ?_, HB.out.trans ?_⟩
          · rw [hl']
            exact hT
          · rw [List.map_append]
            exact HO.out
          · refine Chg.below (S := fun i => i = b ∨ i = m ∨ some i = u7.ownBlock) (cA.step cB (fun i _ h => by rcases h with h | h <;> simp [h]) (fun i _ h => .inr (.inr h))) hsz (fun i hi h => ?_)
            rcases h with h | h | h
            · omega
            · omega
            · have := (row_block hrq h.symm).1
              omega
end Go.Proofs.Ytoglgkplddlemaa
