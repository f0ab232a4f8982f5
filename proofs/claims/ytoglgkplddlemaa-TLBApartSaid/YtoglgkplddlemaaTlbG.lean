/- Contracts of slices.Index, slices.Contains at []int and of FlushCell. No condition. -/
import Derived.Test.YtoglgkplddlemaaTlbE
namespace Go.Proofs.Ytoglgkplddlemaa
open Go.RowKit Go.Cl
open Go.Maps (Keyed)
open Go.ChangeMaps (setBlock)
set_option linter.unusedVariables false
set_option linter.unusedSimpArgs false
attribute [local go_sem] lt_add_one' blk_alloc_past blk_alloc_at blk_drew blk_setCell_ne blk_setBlock_ne blk_setBlock_eq cell_setBlock_ne frozen_setBlock_ne size_setBlock

/-- A slice of ints. -/
def IntsSl (w : World) (oa : Option Addr) (cap : Nat) (xs : List Int) : Prop :=
  xs.length ≤ cap ∧ cap ≤ maxLen ∧ ∀ i x, xs[i]? = some x → ∃ b o, oa = some ⟨b, o, none⟩ ∧ w.cell? ⟨b, o + i, none⟩ = some (.int .i64 x) ∧ I64 x

theorem intsSl_chg {S : Nat → Prop} {w w' : World} {oa : Option Addr} {cap : Nat} {xs : List Int} (h : IntsSl w oa cap xs) (hc : Chg S w w') (hs : ∀ b o, oa = some ⟨b, o, none⟩ → ¬ S b) : IntsSl w' oa cap xs := by
  refine ⟨h.1, h.2.1, fun i x hx => ?_⟩
  obtain ⟨b, o, h1, h2, h3⟩ := h.2.2 i x hx
  have hl := World.block_lt_of_cell? _ _ h2
  exact ⟨b, o, h1, (World.cell?_of_block (w := w) (a := ⟨b, o + i, none⟩) (hc.block b hl (hs b o h1))).trans h2, h3⟩

theorem index_any (oa : Option Addr) (cap : Nat) (xs : List Int) (v : Int) (w : World) (hx : IntsSl w oa cap xs) :
    Calls Try.prog 42 #[.slice oa xs.length cap, .int .i64 v] w fun e w' => (∃ n : Int, e = .returned (.int .i64 n) ∧ -1 ≤ n ∧ n ≤ 9223372036854775807 ∧ (0 ≤ n ↔ v ∈ xs)) ∧ w = w' := by
  have hcm := hx.2.1
  have hlc := hx.1
  unfold maxLen at hcm
  go_enter Try.func42, Try.ntmps42
  go_wp2
  go_loopg [8] xs.length (fun g s8 wr => ∃ k : Nat, k + g = xs.length ∧ s8 = .int .i64 k ∧ (v ∉ xs.take k) ∧ w = wr)
  case atStart => exact ⟨0, by omega, rfl, by simp, rfl⟩
  case round =>
    obtain ⟨k, hkg, rfl, hno, rfl⟩ := hrel
    have KG := Lib.hid hkg
    have NO := Lib.hid hno
    have HX := Lib.hid hx
    clear hno
    cases gk with
    | zero =>
      have hk : ¬ (k < xs.length) := by omega
      clear hkg hx
      go_wp2
      go_ret
      have hno := NO.out
      rw [List.take_of_length_le (by omega)] at hno
      exact ⟨⟨-1, rfl, by omega, by omega, ⟨fun h => by omega, fun h => absurd h hno⟩⟩, rfl⟩
    | succ g =>
      have hk : k < xs.length := by omega
      obtain ⟨x, hxk⟩ : ∃ x, xs[k]? = some x := ⟨_, List.getElem?_eq_getElem hk⟩
      obtain ⟨b, o, rfl, hc, hx64⟩ := hx.2.2 k x hxk
      have XK := Lib.hid hxk
      clear hx hkg hxk
      by_cases hvx : v = x
      · subst hvx
        go_wp2
        go_ret
        exact ⟨⟨k, rfl, by omega, by omega, ⟨fun _ => List.mem_of_getElem? XK.out, fun _ => by omega⟩⟩, rfl⟩
      · go_wp2
        go_roundg g
        case measure => omega
        case rel =>
          refine ⟨k + 1, by have := KG.out; omega, by go_num, ?_, rfl⟩
          rw [List.take_succ_eq_append_getElem hk, List.mem_append]
          rintro (h | h)
          · exact NO.out h
          · have e : xs[k] = x := by have := XK.out; rw [List.getElem?_eq_getElem hk] at this; exact Option.some.inj this
            simp only [List.mem_singleton, e] at h
            exact hvx h

theorem contains_any (oa : Option Addr) (cap : Nat) (xs : List Int) (v : Int) (w : World) (hx : IntsSl w oa cap xs) :
    Calls Try.prog 31 #[.slice oa xs.length cap, .int .i64 v] w fun e w' => e = .returned (.bool (decide (v ∈ xs))) ∧ w = w' := by
  go_enter Try.func31, Try.ntmps31
  go_wp2_with fail
  refine (index_any oa cap xs v w hx).mono ?_
  rintro e w' ⟨⟨n, rfl, h1, h2, h3⟩, rfl⟩
  have e3 : decide (0 ≤ n) = decide (v ∈ xs) := decide_eq_decide.2 h3
  have E3 := Lib.hid e3
  clear h3 e3 hx
  go_wp2
  go_ret
  exact ⟨by rw [← E3.out]; rfl, rfl⟩

/-- A slot's tag is one of some cells'. -/
def cellsIn (xs : List Int) (e : En) : Bool := decide (e.c ∈ xs)

structure FlushInv (w : World) (b m R : Nat) (sl now : Int) (L : List En) (xs : List Int) (left : List En) (wr : World) : Prop where
  tlb : TlbIs wr b m sl now (L.filter fun e => decide (e ∈ left) || !cellsIn xs e)
  rg : RangeIs Try.prog 32 wr m R (left.map En.pair)
  chg : Chg (fun i => i = b ∨ i = m) w wr
  sub : ∀ e ∈ left, e ∈ L
  nd : left.Nodup

theorem filter_stay {L left : List En} {e : En} {xs : List Int} (h : e ∈ left) (hs : ∀ x ∈ left, x ∈ L) (hnd : left.Nodup) (hc : cellsIn xs e = false) :
    (L.filter fun x => decide (x ∈ left.erase e) || !cellsIn xs x) = L.filter fun x => decide (x ∈ left) || !cellsIn xs x := by
  apply List.filter_congr
  intro x hx
  by_cases hxe : x = e
  · subst hxe
    simp [hc]
  · congr 1
    exact decide_eq_decide.2 (List.mem_erase_of_ne hxe)

theorem tags_apart {w : World} {b m : Nat} {sl now : Int} {L : List En} (h : TlbIs w b m sl now L) {x y : En} (hx : x ∈ L) (hy : y ∈ L) (e : x.is y.c y.p = true) : x = y := by
  have hn := h.mp.nodup
  simp only [List.map_map] at hn
  have ho := h.ord
  have e1 : x.c = y.c ∧ x.p = y.p := by simpa [En.is] using e
  obtain ⟨i, hi, rfl⟩ := List.getElem_of_mem hx
  obtain ⟨j, hj, rfl⟩ := List.getElem_of_mem hy
  have : i = j := by
    refine (List.getElem_inj (xs := L.map (Prod.fst ∘ En.pair)) (h₀ := by simpa using hi) (h₁ := by simpa using hj) hn).1 ?_
    simp only [List.getElem_map, Function.comp, En.pair, e1.1, e1.2]
  subst this
  rfl

theorem filter_go {w : World} {b m : Nat} {sl now : Int} {L0 L left : List En} {e : En} {xs : List Int} (hT : TlbIs w b m sl now L0) (hL0 : L0 = L.filter fun x => decide (x ∈ left) || !cellsIn xs x) (h : e ∈ left) (hs : ∀ x ∈ left, x ∈ L) (hnd : left.Nodup) (hc : cellsIn xs e = true) :
    cut L0 e.c e.p = L.filter fun x => decide (x ∈ left.erase e) || !cellsIn xs x := by
  unfold cut
  have he0 : e ∈ L0 := by rw [hL0]; exact List.mem_filter.2 ⟨hs e h, by simp [h]⟩
  have h1 : L0.filter (fun x => !x.is e.c e.p) = L0.filter (fun x => !(x == e)) := by
    apply List.filter_congr
    intro x hx
    congr 1
    by_cases hxe : x = e
    · subst hxe
      simp [En.is]
    · have : x.is e.c e.p = false := by
        cases hh : x.is e.c e.p with
        | false => rfl
        | true => exact absurd (tags_apart hT hx he0 hh) hxe
      rw [this]
      simpa using hxe
  rw [h1, hL0, List.filter_filter]
  apply List.filter_congr
  intro x hx
  by_cases hxe : x = e
  · subst hxe
    simp [hc, hnd.not_mem_erase]
  · have : (x == e) = false := by simpa using hxe
    rw [this]
    simp only [Bool.not_false, Bool.true_and]
    congr 1
    exact decide_eq_decide.2 (List.mem_erase_of_ne hxe).symm

theorem mem_left {L left : List En} {xs : List Int} {e : En} (h : e ∈ left) (hL : e ∈ L) : e ∈ L.filter fun x => decide (x ∈ left) || !cellsIn xs x :=
  List.mem_filter.2 ⟨hL, by simp [h]⟩

theorem hit_perm {w : World} {b m : Nat} {sl now : Int} {L : List En} (h : TlbIs w b m sl now L) {e : En} (he : e ∈ L) : (L.map En.pair).Perm ((tagV e.c e.p, foundV e.f e.r e.u) :: (cut L e.c e.p).map En.pair) := by
  rcases filter_pair L e.c e.p h.mp.nodup with ⟨h1, _⟩ | ⟨x, hx, h1, h2⟩
  · exact absurd rfl (h1 e.pair (List.mem_map.2 ⟨e, he, rfl⟩))
  · have : x = e := tags_apart h hx he h1
    subst this
    exact h2

theorem left_apart {w : World} {b m : Nat} {sl now : Int} {L left : List En} (h : TlbIs w b m sl now L) {e : En} (he : e ∈ left) (hnd : left.Nodup) (hs : ∀ x ∈ left, x ∈ L) : ∀ q ∈ (left.erase e).map En.pair, q.1 ≠ tagV e.c e.p := by
  intro q hq e1
  obtain ⟨x, hx, rfl⟩ := List.mem_map.1 hq
  have h1 : x.is e.c e.p = true := by simpa [En.is, En.pair, tagV] using e1
  have := tags_apart h (hs x (List.mem_of_mem_erase hx)) (hs e he) h1
  subst this
  exact hnd.not_mem_erase hx

set_option maxHeartbeats 1000000 in
theorem flushCell_ok {b m : Nat} {sl now : Int} {L : List En} {oa : Option Addr} {cap : Nat} {xs : List Int} {w : World} (h : TlbIs w b m sl now L) (hx : IntsSl w oa cap xs) (hxb : ∀ b' o, oa = some ⟨b', o, none⟩ → ¬ (b' = b ∨ b' = m)) (hsl : sl ≤ 1000) :
    Calls Try.prog 17 #[.pointer (some ⟨b, 0, none⟩), .slice oa xs.length cap] w fun e w' => e = .returned (.int .i64 (L.length - (L.filter fun e => !cellsIn xs e).length)) ∧ TlbIs w' b m sl now (L.filter fun e => !cellsIn xs e) ∧ Chg (fun i => i = b ∨ i = m) w w' := by
  obtain ⟨-, -, hlt0, hltm0, c0, c1, c2, f2⟩ := h.facts
  obtain ⟨_, _, _, _, _, _, _, _, _, _, _, _, _, _, _, _, _, _⟩ := lts hlt0
  obtain ⟨_, _, _, _, _, _, _, _, _, _, _, _, _, _, _, _, _, _⟩ := lts hltm0
  have hl := h.mp.run_len Try.underlying82 3
  rw [List.length_map] at hl
  obtain ⟨oi, hrng, hrafter⟩ := h.mp.range Try.underlying82
  have H := Lib.hid h
  have HR := Lib.hid hrafter
  clear h hrafter
  go_enter Try.func17, Try.ntmps17
  go_wp2
  obtain ⟨R, hR⟩ : ∃ R, R = w.heap.size := ⟨_, rfl⟩
  obtain ⟨W0, hW0⟩ : ∃ W0 : World, W0 = w.alloc oi := ⟨_, rfl⟩
  have kW : Chg (fun _ => False) w W0 := by rw [hW0]; repeat (first | exact Chg.refl _ _ | apply Chg.drew | (refine Chg.setCell ?_ (by simp) _) | (refine Chg.alloc ?_ _) | (refine Chg.setBlock ?_ (by simp) _))
  have k0 : RangeIs Try.prog 32 W0 m R (L.map En.pair) := HR.out _ _ (kW.blk hltm0 (by simp)) (by rw [hW0, hR]; simp (disch := (first | omega | (simp only [World.size_alloc, World.size_drew, World.size_setCell, size_setBlock] <;> omega) | fail)) only [blk_drew, blk_alloc_past, blk_alloc_at, blk_setCell_ne, blk_setCell_eq, blk_setBlock_ne, blk_setBlock_eq])
  have bmR : b < R ∧ m < R := by omega
  have lenb : (L.length : Int) ≤ 1000 := by have := H.out.few; omega
  have hX := fun wx : World => fun c : Chg (fun i => i = b ∨ i = m) w wx => intsSl_chg hx c (fun b' o h => hxb b' o h)
  have HX := Lib.hid hX
  have I0 : FlushInv w b m R sl now L xs L W0 := by
    have hall : (L.filter fun e => decide (e ∈ L) || !cellsIn xs e) = L := List.filter_eq_self.2 fun e he => by simp [he]
    exact ⟨by rw [hall]; exact H.out.frame kW (by simp) (by simp), k0, kW.mono (fun _ _ h => h.elim), fun _ h => h, ord_nodup H.out.ord⟩
  have BR := Lib.hid bmR
  have RW := Lib.hid hR
  have I00 := Lib.hid I0
  rw [← hW0, ← hR]
  clear kW k0 bmR hX I0 hR hW0 hx hxb c0 c1 c2 f2 hl hrng
  go_loopg [] L.length (fun g wr => ∃ left : List En, left.length = g ∧ FlushInv w b m R sl now L xs left wr)
  case atStart => exact ⟨L, rfl, I00.out⟩
  case round =>
    obtain ⟨left, hgk, hI⟩ := hrel
    have Hgk := Lib.hid hgk
    have HI := Lib.hid hI
    have hrg := hI.rg
    clear hgk hI
    go_wp2_with (at_next; refine wpList_next_of wr (fun e : En => .agg #[.int .i64 e.c, .int .u32 e.p]) (fun e => .agg #[.int .u32 e.f, .int .u8 e.r, .int .u64 e.u]) rfl _ rfl 32 m R left rfl hrg ?_ ?_)
    · intro hl0
      have hT := HI.out.tlb
      rw [hl0] at hT
      have hfin : (L.filter fun e => decide (e ∈ ([] : List En)) || !cellsIn xs e) = L.filter fun e => !cellsIn xs e := List.filter_congr fun e _ => by simp
      rw [hfin] at hT
      obtain ⟨-, -, ha, hb, q0, q1, q2, qf⟩ := hT.facts
      have hl2 := hT.mp.run_len Try.underlying82 3
      rw [List.length_map] at hl2
      have hle := List.length_filter_le (fun e => !cellsIn xs e) L
      have HT := Lib.hid hT
      clear hT hfin hl0 hrg
      go_wp2
      go_ret
      exact ⟨rfl, HT.out, HI.out.chg⟩
    · intro e w1 hel hrg1 hc1 hz1 hent
      have hT := HI.out.tlb.frame hc1 (by have := BR.out; omega) (by have := BR.out; omega)
      have hX1 := HX.out w1 (HI.out.chg.step (S2 := fun i => i = R) hc1 (fun i _ h => h) (fun i hi h => by have := RW.out; omega))
      have HT := Lib.hid hT
      have RG1 := Lib.hid hrg1
      have C1 := Lib.hid hc1
      have HE := Lib.hid hel
      have CON := fun wx : World => fun c : Chg (fun _ => False) w1 wx => contains_any oa cap xs e.c wx (intsSl_chg hX1 c (by simp))
      have CN := Lib.hid CON
      have eL := HI.out.sub e hel
      obtain ⟨tk1, tk2, tk3, tk4⟩ := H.out.tags e eL
      clear hT hrg1 hc1 hel hz1 hrg hX1 CON eL
      go_wp2_with fail
      refine (CN.out _ (by repeat (first | exact Chg.refl _ _ | apply Chg.drew | (refine Chg.setCell ?_ (by simp) _) | (refine Chg.alloc ?_ _) | (refine Chg.setBlock ?_ (by simp) _)))).mono ?_
      rintro e' w2 ⟨rfl, rfl⟩
      by_cases hin : e.c ∈ xs
      · rw [decide_eq_true hin]
        have hci : cellsIn xs e = true := decide_eq_true hin
        have CI := Lib.hid hci
        clear hin hci
        obtain ⟨-, -, ha, hb, q0, q1, q2, qf⟩ := HT.out.facts
        obtain ⟨_, _, _, _, _, _, _, _, _, _, _, _, _, _, _, _, _, _⟩ := lts ha
        obtain ⟨_, _, _, _, _, _, _, _, _, _, _, _, _, _, _, _, _, _⟩ := lts hb
        obtain ⟨o, hup0, hafter⟩ := RG1.out.drop_hit tagKeyed Try.underlying82 HT.out.mp (isKey_tag ⟨tk1, tk2, tk3, tk4⟩) (G := (cut (L.filter fun x => decide (x ∈ left) || !cellsIn xs x) e.c e.p).map En.pair) (old := foundV e.f e.r e.u) (hit_perm HT.out (mem_left HE.out (HI.out.sub e HE.out))) (left_apart HT.out HE.out HI.out.nd (fun x hx => mem_left hx (HI.out.sub x hx))) 0
        have hup : ∀ w' : World, blk w' m = blk w1 m → (Builtin.delete_ #[82, 32] 0 #[.map (some m), .agg #[.int .i64 e.c, .int .u32 e.p]]).run Try.prog w' = .ok (.tuple #[]) (setBlock w' m o) := hup0
        have HA := Lib.hid hafter
        clear hafter hup0
        go_wp2
        go_region
        go_wp2
        go_roundg (left.erase e).length
        case measure =>
          have := Hgk.out
          rw [List.length_erase_of_mem HE.out]
          have := List.length_pos_of_mem HE.out
          omega
        case rel =>
          have bR := BR.out
          have hmr := RG1.out.lt
          obtain ⟨m1, m2⟩ := HA.out (setBlock (w1.alloc (.cells #[.int .i64 e.c, .int .u32 e.p] 32)).drew m o) (by simp (disch := (first | omega | (simp only [World.size_alloc, World.size_drew, World.size_setCell, size_setBlock] <;> omega) | fail)) only [blk_drew, blk_alloc_past, blk_alloc_at, blk_setCell_ne, blk_setCell_eq, blk_setBlock_ne, blk_setBlock_eq])
          refine ⟨left.erase e, rfl, ⟨?_, m2 (by simp (disch := (first | omega | (simp only [World.size_alloc, World.size_drew, World.size_setCell, size_setBlock] <;> omega) | fail)) only [blk_drew, blk_alloc_past, blk_alloc_at, blk_setCell_ne, blk_setCell_eq, blk_setBlock_ne, blk_setBlock_eq]), ?_, fun x hx => HI.out.sub x (List.mem_of_mem_erase hx), HI.out.nd.erase _⟩⟩
          · rw [← filter_go HT.out rfl HE.out HI.out.sub HI.out.nd CI.out]
            refine HT.out.sub _ ?_ m1
            have := H.out.ne
            simp (disch := (first | omega | (simp only [World.size_alloc, World.size_drew, World.size_setCell, size_setBlock] <;> omega) | fail)) only [blk_drew, blk_alloc_past, blk_alloc_at, blk_setCell_ne, blk_setCell_eq, blk_setBlock_ne, blk_setBlock_eq]
            exact HT.out.st
          · refine (HI.out.chg.step (S2 := fun i => i = R) C1.out (fun i _ h => h) (fun i hi h => by have := RW.out; omega)).step (S2 := fun i => i = m) ?_ (fun i _ h => h) (fun i _ h => .inr h)
            repeat (first | exact Chg.refl _ _ | apply Chg.drew | (refine Chg.setCell ?_ (by simp) _) | (refine Chg.alloc ?_ _) | (refine Chg.setBlock ?_ (by simp) _))
      · rw [decide_eq_false hin]
        have hci : cellsIn xs e = false := decide_eq_false hin
        have CI := Lib.hid hci
        clear hin hci
        go_wp2
        go_roundg (left.erase e).length
        case measure =>
          have := Hgk.out
          rw [List.length_erase_of_mem HE.out]
          have := List.length_pos_of_mem HE.out
          omega
        case rel =>
          have bR := BR.out
          refine ⟨left.erase e, rfl, ⟨?_, RG1.out.frame (S := fun _ => False) (by repeat (first | exact Chg.refl _ _ | apply Chg.drew | (refine Chg.setCell ?_ (by simp) _) | (refine Chg.alloc ?_ _) | (refine Chg.setBlock ?_ (by simp) _))) (by simp) (by simp), ?_, fun x hx => HI.out.sub x (List.mem_of_mem_erase hx), HI.out.nd.erase _⟩⟩
          · rw [filter_stay HE.out HI.out.sub HI.out.nd CI.out]
            exact HT.out.frame (S := fun _ => False) (by repeat (first | exact Chg.refl _ _ | apply Chg.drew | (refine Chg.setCell ?_ (by simp) _) | (refine Chg.alloc ?_ _) | (refine Chg.setBlock ?_ (by simp) _))) (by simp) (by simp)
          · refine (HI.out.chg.step (S2 := fun i => i = R) C1.out (fun i _ h => h) (fun i hi h => by have := RW.out; omega)).step (S2 := fun _ => False) ?_ (fun i _ h => h) (fun i _ h => h.elim)
            repeat (first | exact Chg.refl _ _ | apply Chg.drew | (refine Chg.setCell ?_ (by simp) _) | (refine Chg.alloc ?_ _) | (refine Chg.setBlock ?_ (by simp) _))
end Go.Proofs.Ytoglgkplddlemaa
