/- Contracts of slices.Concat at bytes, package memory's Write. -/
import Derived.Test.YtenbkdmaiooldaaMemJ
import Derived.Laws.AppendOwnNone
namespace Go.Proofs.Ytenbkdmaiooldaa
open Go.RowKit Go.Cl
open Go.Maps (Keyed)
open Go.ChangeMaps (setBlock)
set_option linter.unusedVariables false
set_option linter.unusedSimpArgs false
attribute [local go_sem] lt_add_one' blk_alloc_past blk_alloc_at blk_drew blk_setCell_ne blk_setBlock_ne blk_setBlock_eq cell_setBlock_ne frozen_setBlock_ne size_setBlock

/-- Bytes behind an address. -/
def BytesAt (w : World) (ob : Option Addr) (x : List Int) : Prop := ∀ j b, x[j]? = some b → ∃ a, ob = some a ∧ w.cell? (a.add j) = some (.int .u8 b) ∧ 0 ≤ b ∧ b ≤ 255
/-- Parts behind an address. -/
def PartsAre (w : World) (oa : Option Addr) (ps : List (List Int)) : Prop := ∀ i x, ps[i]? = some x → ∃ a ob c, oa = some a ∧ w.cell? (a.add i) = some (.slice ob x.length c) ∧ x.length ≤ c ∧ c ≤ maxLen ∧ (ob = none → c = 0) ∧ BytesAt w ob x

theorem cell_frame {S : Nat → Prop} {w w' : World} (hc : Chg S w w') (hs : ∀ i, i < w.heap.size → ¬ S i) {a : Addr} {v : Value} (h : w.cell? a = some v) : w'.cell? a = some v :=
  (World.cell?_of_block (hc.block _ (World.block_lt_of_cell? _ _ h) (hs _ (World.block_lt_of_cell? _ _ h)))).trans h

theorem BytesAt.frame {S : Nat → Prop} {w w' : World} {ob : Option Addr} {x : List Int} (h : BytesAt w ob x) (hc : Chg S w w') (hs : ∀ i, i < w.heap.size → ¬ S i) : BytesAt w' ob x := fun j b hb => by
  obtain ⟨a, h1, h2, h3⟩ := h j b hb
  exact ⟨a, h1, cell_frame hc hs h2, h3⟩

theorem PartsAre.frame {S : Nat → Prop} {w w' : World} {oa : Option Addr} {ps : List (List Int)} (h : PartsAre w oa ps) (hc : Chg S w w') (hs : ∀ i, i < w.heap.size → ¬ S i) : PartsAre w' oa ps := fun i x hx => by
  obtain ⟨a, ob, c, h1, h2, h3, h4, h6, h5⟩ := h i x hx
  exact ⟨a, ob, c, h1, cell_frame hc hs h2, h3, h4, h6, h5.frame hc hs⟩

/-- The first parts, one behind the other. -/
def catTo (ps : List (List Int)) (i : Nat) : List Int := (ps.take i).flatten

theorem flat_next {ps : List (List Int)} {i : Nat} {x : List Int} (h : ps[i]? = some x) : catTo ps (i + 1) = catTo ps i ++ x := by
  unfold catTo
  have hi := (List.getElem?_eq_some_iff.1 h).1
  rw [List.take_add_one, h]
  simp

/-- All parts, one behind the other. -/
def cat (ps : List (List Int)) : List Int := ps.flatten

/-- How long the first i parts are. -/
def tot (ps : List (List Int)) (i : Nat) : Nat := (catTo ps i).length

theorem tot_next {ps : List (List Int)} {i : Nat} {x : List Int} (h : ps[i]? = some x) : tot ps (i + 1) = tot ps i + x.length := by
  unfold tot
  rw [flat_next h, List.length_append]

theorem tot_le (ps : List (List Int)) (i : Nat) : tot ps i ≤ ps.flatten.length := by
  have h : ps.flatten = (ps.take i).flatten ++ (ps.drop i).flatten := by rw [← List.flatten_append, List.take_append_drop]
  unfold tot catTo
  rw [h, List.length_append]
  omega

theorem tot_all (ps : List (List Int)) : tot ps ps.length = ps.flatten.length := by unfold tot catTo; rw [List.take_length]

set_option maxHeartbeats 1000000 in
set_option maxRecDepth 100000 in
theorem concat_ok {w : World} {oa : Option Addr} {ps : List (List Int)} {cap : Nat} (h : PartsAre w oa ps) (hn : ps.length ≤ 1000000000) (ht : ps.flatten.length ≤ 140737488355328) :
    Calls Try.prog 60 #[.slice oa ps.length cap] w fun e w' => ∃ v, e = .returned v ∧ w'.ownsRow w.heap.size 5 1 v (cat ps).length ((cat ps).map (Value.int .u8)) ∧ Chg (fun _ => False) w w' := by
  obtain ⟨i0, hi, hz0, hz1, hz2⟩ := info5z
  have H := Lib.hid h
  have HTL := Lib.hid (tot_le ps)
  have HT := Lib.hid ht
  clear h ht
  go_enter Try.func60, Try.ntmps60
  go_wp2
  go_loopg [3, 11] ps.length (fun g s3 s11 wr => ∃ i : Nat, i + g = ps.length ∧ s11 = .int .i64 i ∧ s3 = .int .i64 (tot ps i) ∧ w = wr)
  case atStart => exact ⟨0, by omega, rfl, by simp [tot, catTo], rfl⟩
  case round =>
    obtain ⟨i, hig, rfl, rfl, rfl⟩ := hrel
    have IG := Lib.hid hig
    cases gk with
    | zero =>
      have hin : ¬ ((i : Int) < (ps.length : Int)) := by omega
      have hip : i = ps.length := by omega
      subst hip
      clear hig
      go_wp2_with fail
      have hle := HTL.out ps.length
      have ht := HT.out
      refine (grow_nil w (tot ps ps.length) (by omega)).mono ?_
      rintro e w1 ⟨v, rfl, hown, hc⟩
      have HO := Lib.hid hown
      have HC := Lib.hid hc
      clear hown hc hin hle ht
      go_wp2
      go_loopg [6, 27] ps.length (fun g s6 s27 wr => ∃ i : Nat, i + g = ps.length ∧ s27 = .int .i64 i ∧ wr.ownsRow w.heap.size 5 1 s6 (tot ps i) ((catTo ps i).map (Value.int .u8)) ∧ Chg (fun _ => False) w wr)
      case atStart => exact ⟨0, by omega, rfl, by simpa [tot, catTo] using HO.out, HC.out⟩
      case round =>
        obtain ⟨j, hjg, rfl, hrow, hcr⟩ := hrel
        have JG := Lib.hid hjg
        have CR := Lib.hid hcr
        have hwz := hcr.size
        cases gk with
        | zero =>
          have hjn : ¬ ((j : Int) < (ps.length : Int)) := by omega
          have hjp : j = ps.length := by omega
          subst hjp
          have HRow := Lib.hid hrow
          clear hjg hcr hrow
          go_wp2
          go_ret
          refine ⟨_, rfl, ?_, CR.out⟩
          have := HRow.out
          rw [tot_all] at this
          unfold catTo at this
          rw [List.take_length] at this
          exact this
        | succ g =>
          have hjn : (j : Int) < (ps.length : Int) := by omega
          have hlt : j < ps.length := by omega
          obtain ⟨a, ob, c, rfl, hcell, hxc, hcm, hz, hby⟩ := H.out.frame hcr (fun _ _ => id) j _ (List.getElem?_eq_getElem hlt)
          have hnx := flat_next (List.getElem?_eq_getElem hlt)
          have htn := tot_next (List.getElem?_eq_getElem hlt)
          have hl1 := HTL.out (j + 1)
          have ht := HT.out
          rw [htn] at hl1
          generalize ps[j] = x at *
          have HNX := Lib.hid hnx
          have HTN := Lib.hid htn
          have HBY := Lib.hid hby
          clear hnx htn hby hjg hcr
          cases ob with
          | none =>
            have hx0 : x = [] := by
              cases x with
              | nil => rfl
              | cons b l =>
                obtain ⟨a, h, _⟩ := HBY.out 0 b rfl
                cases h
            subst hx0
            obtain rfl := hz rfl
            go_wp2_with (at_builtin; refine wpList_append_own_none rfl _ _ 58 rfl w.heap.size 5 i0 1 Try.underlying58 hi _ _ _ rfl hrow rfl ?_)
            go_wp2
            go_roundg g
            case measure => omega
            case rel => exact ⟨j + 1, by have := JG.out; omega, by go_num, by rw [HTN.out, HNX.out]; simpa using hrow, CR.out⟩
          | some ad =>
            go_wp2_with (at_builtin; refine wpList_append_own _ rfl _ _ 58 rfl w.heap.size 5 i0 (.int .u8 0) 1 1 Try.underlying58 hi hz0 hz1 hz2 rfl (by decide) _ _ _ rfl hrow ad x.length c (x.map (Value.int .u8)) rfl (by simp) ?_ ?_ ?_ ?_ ?_ ?_)
            · intro k u hu
              rw [List.getElem?_map] at hu
              obtain ⟨b, hb, rfl⟩ := Option.map_eq_some_iff.1 hu
              obtain ⟨a', ha', hc', -⟩ := HBY.out k b hb
              obtain rfl := Option.some.inj ha'
              exact hc'
            · intro u hu
              obtain ⟨b, _, rfl⟩ := List.mem_map.1 hu
              rfl
            · unfold maxLen; omega
            · omega
            · exact hwz
            · intro v' w' hown hgrow hnn
              have HO2 := Lib.hid hown
              have HGr := Lib.hid hgrow
              have HRow := Lib.hid hrow
              clear hown hgrow hnn hrow
              go_wp2
              go_roundg g
              case measure => omega
              case rel =>
                refine ⟨j + 1, by have := JG.out; omega, by go_num, ?_, CR.out.trans (Chg.of_grown HGr.out) fun i hi h => ?_⟩
                · rw [HTN.out, HNX.out, List.map_append]
                  exact HO2.out
                · have := (row_block HRow.out h.symm).1
                  omega
    | succ g =>
      have hin : (i : Int) < (ps.length : Int) := by omega
      have hlt : i < ps.length := by omega
      clear hig
      obtain ⟨a, ob, c, rfl, hcell, hxc, hcm, hz, hby⟩ := H.out i _ (List.getElem?_eq_getElem hlt)
      have htn := tot_next (List.getElem?_eq_getElem hlt)
      have hl1 := HTL.out (i + 1)
      rw [htn] at hl1
      have ht := HT.out
      generalize ps[i] = x at *
      have e1 : ¬ ((tot ps i : Int) + x.length < 0) := by omega
      have e2 : (tot ps i : Int) + x.length ≤ 9223372036854775807 := by omega
      have HTN := Lib.hid htn
      clear htn
      unfold maxLen at hcm
      have hcm' : (c : Int) ≤ 9223372036854775807 := by omega
      clear hby ht hl1
      go_wp2
      go_roundg g
      case measure => omega
      case rel => exact ⟨i + 1, by have := IG.out; omega, by go_num, by rw [HTN.out]; simp, rfl⟩

theorem parts_byte {w : World} {oa : Option Addr} {ps : List (List Int)} (h : PartsAre w oa ps) : ∀ b ∈ cat ps, 0 ≤ b ∧ b ≤ 255 := by
  intro b hb
  obtain ⟨x, hx, hbx⟩ := List.mem_flatten.1 hb
  obtain ⟨i, hi, rfl⟩ := List.getElem_of_mem hx
  obtain ⟨j, hj, rfl⟩ := List.getElem_of_mem hbx
  obtain ⟨_, _, _, _, _, _, _, _, hby⟩ := h i _ (List.getElem?_eq_getElem hi)
  obtain ⟨_, _, _, h1, h2⟩ := hby j _ (List.getElem?_eq_getElem hj)
  exact ⟨h1, h2⟩

/-- A list as a function. -/
def at0 (l : List Int) (j : Nat) : Int := l.getD j 0

theorem at0_byte {l : List Int} (h : ∀ b ∈ l, 0 ≤ b ∧ b ≤ 255) (j : Nat) : 0 ≤ at0 l j ∧ at0 l j ≤ 255 := by
  unfold at0
  rw [List.getD_eq_getElem?_getD]
  cases hj : l[j]? with
  | none => simp
  | some b => exact h b (List.mem_of_getElem? hj)

set_option maxHeartbeats 1000000 in
set_option maxRecDepth 100000 in
theorem writeM_bad {w : World} {b m : Nat} {pg : List (Nat × Nat)} {pages : Nat} {f : Nat → Int} (h : MemIs w b m pg pages f) {oa : Option Addr} {ps : List (List Int)} {cap : Nat} (hp : PartsAre w oa ps) (hn : ps.length ≤ 1000000000) (ht : (cat ps).length ≤ 140737488355328) {a : Int} (ha0 : 0 ≤ a) (ha : a ≤ 4294967295)
    (hw : placeE pages a (cat ps).length ≠ 0) :
    Calls Try.prog 34 #[ptrV b, .int .u32 a, .slice oa ps.length cap] w fun e w' => e = .returned (.int .i64 (placeE pages a (cat ps).length)) ∧ Chg (fun _ => False) w w' := by
  have hcc := concat_ok (cap := cap) hp hn ht
  have H := Lib.hid h
  have HC := Lib.hid hcc
  clear h hcc hp
  generalize hN : (cat ps).length = N at *
  obtain ⟨e0, he0⟩ : ∃ e0, placeE pages a N = e0 := ⟨_, rfl⟩
  rw [he0] at hw
  simp only [he0]
  unfold ptrV at *
  go_enter Try.func34, Try.ntmps34
  go_wp2_with fail
  refine HC.out.mono ?_
  rintro e w1 ⟨v, rfl, hown, hc⟩
  have hv : ∃ p c, v = .slice p N c := by
    obtain ⟨_, (⟨rfl, h0⟩ | ⟨g, c, cur, rfl, _⟩)⟩ := hown
    · exact ⟨none, 0, by rw [← h0]⟩
    · exact ⟨_, _, rfl⟩
  obtain ⟨p, c, rfl⟩ := hv
  have c0 := place_ok (H.out.frame hc fun _ _ => id) a N ha0 ha (by omega)
  rw [he0] at c0
  unfold ptrV at c0
  have C0 := Lib.hid c0
  have HC1 := Lib.hid hc
  clear c0 hown hc
  go_wp2_with fail
  refine C0.out.mono ?_
  rintro e w' ⟨rfl, rfl⟩
  have n1 : (e0 != 0) = true := by simpa using hw
  go_wp2
  go_ret
  exact ⟨rfl, HC1.out⟩

set_option maxHeartbeats 1000000 in
set_option maxRecDepth 100000 in
theorem writeM_ok {w : World} {b m : Nat} {pg : List (Nat × Nat)} {pages : Nat} {f : Nat → Int} (h : MemIs w b m pg pages f) {oa : Option Addr} {ps : List (List Int)} {cap : Nat} (hp : PartsAre w oa ps) (hn : ps.length ≤ 1000000000) {a : Nat} (ha : a + (cat ps).length ≤ pages * 4096) :
    Calls Try.prog 34 #[ptrV b, .int .u32 a, .slice oa ps.length cap] w fun e w' => e = .returned (.int .i64 0) ∧ Wrote w w' b m pg pages (put f a (cat ps).length (at0 (cat ps))) := by
  have hpg := h.size
  have hcc := concat_ok (cap := cap) hp hn (by unfold cat at ha; omega)
  have hby := parts_byte hp
  have H := Lib.hid h
  have HC := Lib.hid hcc
  have BY := Lib.hid (at0_byte hby)
  clear h hcc hp hby
  generalize cat ps = l at *
  unfold ptrV at *
  go_enter Try.func34, Try.ntmps34
  go_wp2_with fail
  refine HC.out.mono ?_
  rintro e w1 ⟨v, rfl, hown, hc⟩
  have hv : ∃ p c, v = .slice p l.length c ∧ (l.length = 0 ∨ ∃ g, p = some ⟨g, 0, none⟩ ∧ w.heap.size ≤ g ∧ l.length ≤ c ∧ c ≤ maxLen ∧ Src w1 g 0 l.length (at0 l)) := by
    obtain ⟨_, (⟨rfl, h0⟩ | ⟨g, c, cur, rfl, hb, hblk, hlc, hcm, hsz, htake⟩)⟩ := hown
    · exact ⟨none, 0, by rw [← h0], .inl h0⟩
    · refine ⟨_, _, rfl, .inr ⟨g, rfl, hb, hlc, hcm, fun j hj => ⟨?_, BY.out j⟩⟩⟩
      have hblk' : blk w1 g = some (.cells cur 5 (0, 0)) := hblk
      rw [cell_of_blk hblk', Nat.zero_add]
      have h1 := congrArg (fun z => z[j]?) htake
      simp only [Nat.mul_one, List.getElem?_take_of_lt hj, List.getElem?_map] at h1
      rw [← Array.getElem?_toList, h1]
      unfold at0
      rw [List.getD_eq_getElem?_getD, List.getElem?_eq_getElem hj]
      rfl
  obtain ⟨p, c, rfl, hcase⟩ := hv
  have c0 := place_ok (H.out.frame hc fun _ _ => id) a l.length (by omega) (by omega) (by omega)
  rw [placeE_ok ha] at c0
  unfold ptrV at c0
  have C0 := Lib.hid c0
  have HC1 := Lib.hid hc
  have HCS := Lib.hid hcase
  clear c0 hown hc hcase
  go_wp2_with fail
  refine C0.out.mono ?_
  rintro e w' ⟨rfl, rfl⟩
  go_wp2_with fail
  have hW : Calls Try.prog 49 #[ptrV b, .int .u32 a, .slice p l.length c] w1 fun e w' => e = .returned (.tuple #[]) ∧ Wrote w1 w' b m pg pages (put f a l.length (at0 l)) := by
    have hM1 := H.out.frame HC1.out fun _ _ => id
    rcases HCS.out with h0 | ⟨g, rfl, hg, hlc, hcm, hs⟩
    · rw [h0]
      refine (write_none (by omega)).mono ?_
      rintro e w' ⟨rfl, hc⟩
      refine ⟨rfl, pg, ?_, hc.mono fun _ _ h => h.elim, fun i hi => .inl hi⟩
      rw [put_none]
      exact hM1.frame hc fun _ _ => id
    · exact write_any hM1 hs (fun e => by have := H.out.lt _ e; omega) hlc (by unfold maxLen at hcm; omega) ha
  refine hW.mono ?_
  rintro e w3 ⟨rfl, hw⟩
  have HW := Lib.hid hw
  clear hw hW
  go_wp2
  go_ret
  exact ⟨rfl, Wrote.trans (HC1.out.mono fun _ _ h => h.elim) (fun i hi => .inl hi) HW.out⟩
end Go.Proofs.Ytenbkdmaiooldaa
