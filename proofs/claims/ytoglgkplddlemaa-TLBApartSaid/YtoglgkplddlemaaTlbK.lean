/- Contract of order: the tags, the one used last first. No condition. -/
import Derived.Test.YtoglgkplddlemaaTlbJ
import Derived.Lib.SmallJoins
namespace Go.Proofs.Ytoglgkplddlemaa
open Go.RowKit Go.Cl Go.Shelf Go.Sort
open Go.Maps (Keyed)
set_option linter.unusedVariables false
set_option linter.unusedSimpArgs false
attribute [local go_sem] lt_add_one' blk_alloc_past blk_alloc_at blk_drew blk_setCell_ne

/-- The sort of a list's tags. -/
theorem sort_ok {b m : Nat} {sl now : Int} {L l : List En} {w : World} {base Bt n cap : Nat} {oa : Option Addr} (h : TlbIs w b m sl now L) (hbt : blk w Bt = some (.cells #[.pointer (some ⟨b, 0, none⟩)] 25 (0, 0))) (hp : l.Perm L) (hl : L.length ≤ 1000) (hrow : w.ownsRow base 32 2 (.slice oa n cap) n (l.flatMap encE)) (hn : n = l.length) (hlt : b < base ∧ m < base ∧ Bt < base) :
    Calls Try.prog 43 #[.slice oa n cap, .func (.func 44) #[] #[.pointer (some ⟨Bt, 0, none⟩)]] w fun e w' => e = .returned (.tuple #[]) ∧ w'.ownsRow base 32 2 (.slice oa n cap) n (L.flatMap encE) ∧ Chg (fun i => some i = (Value.slice oa n cap).ownBlock) w w' := by
  subst hn
  obtain ⟨-, hq⟩ := id hrow
  rcases hq with ⟨h1, h2⟩ | ⟨g, cap', cur, hv, hbs, hh, hc, hm, hcs, hx⟩
  · simp at h1
    obtain ⟨rfl, h1, rfl⟩ := h1
    obtain rfl : l = [] := List.length_eq_zero_iff.1 h2
    obtain rfl : L = [] := hp.symm.eq_nil
    refine (AnyF.slices_SortFunc_none (P := Try.prog) (ρ := sortTags_ren) { sortTags with } none 0 _ w).mono fun e w' he => ?_
    obtain ⟨rfl, rfl⟩ := he
    exact ⟨rfl, hrow, Chg.refl _ _⟩
  · simp at hv
    obtain ⟨rfl, rfl⟩ := hv
    by_cases he : L = []
    · subst he
      obtain rfl : l = [] := hp.eq_nil
      refine (AnyF.slices_SortFunc_none (P := Try.prog) (ρ := sortTags_ren) { sortTags with } (some ⟨g, 0, none⟩) cap _ w).mono fun e w' he => ?_
      obtain ⟨rfl, rfl⟩ := he
      exact ⟨rfl, hrow, Chg.refl _ _⟩
    · obtain ⟨e0, he0⟩ := List.exists_mem_of_ne_nil L he
      letI : Inhabited {e : En // e ∈ L} := ⟨⟨e0, he0⟩⟩
      obtain ⟨ll, hll⟩ : ∃ ll : List {e : En // e ∈ L}, ll.map (·.1) = l := by
        refine ⟨l.attach.map fun x => ⟨x.1, hp.mem_iff.1 x.2⟩, ?_⟩
        rw [List.map_map]
        exact (List.attach_map_subtype_val l)
      have hlen : ll.length = l.length := by rw [← hll, List.length_map]
      have hf : ∀ k : List {e : En // e ∈ L}, (k.map (·.1)).flatMap encE = k.flatMap fun x => encE x.1 := fun k => by rw [List.flatMap_map]
      have hk : ∀ x : {e : En // e ∈ L}, (encE x.1).length = 2 := fun _ => rfl
      have hr2 : w.ownsRow base 32 2 (.slice (some ⟨g, 0, none⟩) l.length cap) l.length (ll.flatMap fun x => encE x.1) := by rw [← hf, hll]; exact hrow
      have hH := holdsK_row (enc := fun x : {e : En // e ∈ L} => encE x.1) hk (by omega) hr2
      have hll2 := hp.length_eq
      have hc := AnyQ.slices_SortFunc sortTags 2 Try.isAgg32 Try.sizeOf32 (fun x : {e : En // e ∈ L} => encE x.1) hk (fun x v hv => by simp [encE] at hv; rcases hv with rfl | rfl <;> rfl) (fun x y => later x.1 y.1) (swo_later L) 44 #[.pointer (some ⟨Bt, 0, none⟩)] g 0 cap ll.toArray w (enters_of Try.func44 (by kernel_rfl) rfl)
        (fun q os dk _ x y => by
          have hch := chg_sortWorldK (fun x : {e : En // e ∈ L} => encE x.1) 2 w g 0 q dk os
          exact cmp_ok (h.frame hch (by omega) (by omega)) (hch.blk' hbt (by omega)) x.2 y.2) hH (blk_lt hh) (by simp; omega)
      change Calls Try.prog 43 _ _ _ at hc
      rw [List.size_toArray, hlen] at hc
      refine hc.mono fun e w' he => ?_
      obtain ⟨rfl, d', q, os, hperm, hsort, rfl⟩ := he
      have hsz : d'.size = ll.length := by simpa using hperm.1
      have hpl : d'.toList.Perm ll := by
        have := hperm.2.2
        rw [show (d'.extract 0 l.length) = d' by rw [Array.extract_eq_self_iff]; omega, show (ll.toArray.extract 0 l.length) = ll.toArray by rw [Array.extract_eq_self_iff]; simp; omega] at this
        simpa using this
      have heq : d'.toList.map (·.1) = L := sorted_eq h.ord ((hpl.map _).trans (by rw [hll]; exact hp)) (sorted_pairwise (by rw [hsz, hlen]; exact hsort))
      have hrw := row_sorted (m := q) (os := os) (enc := fun x : {e : En // e ∈ L} => encE x.1) hk (by omega) hr2 (l' := d'.toList) (by simp; omega)
      rw [Array.toArray_toList, ← hf, heq] at hrw
      exact ⟨rfl, hrw, (chg_sortWorldK _ _ _ _ _ _ _ _).mono fun i _ hi => by rw [show i = g from hi]; rfl⟩

theorem heap_two (w : World) (o o' : Obj) : ((w.alloc o).alloc o').heap[w.heap.size + 1]? = some o' := by
  have := heap_alloc_new (w.alloc o) o'
  rwa [World.size_alloc] at this

set_option maxHeartbeats 2000000 in
set_option maxRecDepth 100000 in
theorem order_ok {b m : Nat} {sl now : Int} {L : List En} {w : World} (h : TlbIs w b m sl now L) (hl : L.length ≤ 1000) :
    Calls Try.prog 33 #[.pointer (some ⟨b, 0, none⟩)] w fun e w' => ∃ v, e = .returned v ∧ w'.ownsRow w.heap.size 32 2 v L.length (L.flatMap encE) ∧ Chg (fun _ => False) w w' := by
  obtain ⟨-, -, hlt0, hltm0, c0, c1, c2, f2⟩ := h.facts
  obtain ⟨_, _, _, _, _, _, _, _, _, _, _, _, _, _, _, _, _, _⟩ := lts hlt0
  obtain ⟨_, _, _, _, _, _, _, _, _, _, _, _, _, _, _, _, _, _⟩ := lts hltm0
  obtain ⟨i0, hi, hz0, hz1, hz2⟩ := info_parts info32
  obtain ⟨oi, hrng, hrafter⟩ := h.mp.range Try.underlying82
  have H := Lib.hid h
  have HR := Lib.hid hrafter
  have HL := Lib.hid hl
  clear h hrafter hl
  go_enter Try.func33, Try.ntmps33
  go_wp2
  obtain ⟨W0, hW0⟩ : ∃ W0 : World, W0 = (w.alloc (.cells #[.pointer (some ⟨b, 0, none⟩)] 25)).alloc oi := ⟨_, rfl⟩
  obtain ⟨Bt, hBt⟩ : ∃ Bt, Bt = w.heap.size := ⟨_, rfl⟩
  obtain ⟨R, hR⟩ : ∃ R, R = w.heap.size + 1 := ⟨_, rfl⟩
  have kW : Chg (fun _ => False) w W0 := by rw [hW0]; exact ((Chg.refl _ _).alloc _).alloc _
  have kB : blk W0 Bt = some (.cells #[.pointer (some ⟨b, 0, none⟩)] 25 (0, 0)) := by rw [hW0, hBt]; simp (disch := (first | omega | (simp only [World.size_alloc, World.size_drew, World.size_setCell, size_setBlock] <;> omega) | fail)) only [blk_drew, blk_alloc_past, blk_alloc_at, blk_setCell_ne, blk_setCell_eq, blk_setBlock_ne, blk_setBlock_eq]
  have kR : RangeIs Try.prog 32 W0 m R (L.map En.pair) := HR.out _ _ (kW.blk hltm0 (by simp)) (by rw [hW0, hR]; exact blk_alloc_at _ _ _ (by simp))
  have kZ : W0.heap.size = w.heap.size + 2 := by rw [hW0]; simp
  rw [← hW0, ← hR, ← hBt]
  have KW := Lib.hid kW
  have KZ := Lib.hid (And.intro kZ (And.intro hBt hR))
  have KB := Lib.hid kB
  have KR := Lib.hid kR
  clear kW kB kR kZ hW0 hBt hR hrng
  go_loopg [3] L.length (fun g s3 wr => ∃ left dn : List En, left.length = g ∧ (dn ++ left).Perm L ∧ wr.ownsRow W0.heap.size 32 2 s3 dn.length (dn.flatMap encE) ∧ RangeIs Try.prog 32 wr m R (left.map En.pair) ∧ Chg (fun i => i = R) W0 wr)
  case atStart => exact ⟨L, [], rfl, List.Perm.refl _, World.ownsRow_nil _ _ _ _, KR.out, Chg.refl _ _⟩
  case round =>
    obtain ⟨left, dn, hgk, hpm, hrow, hrg, hch⟩ := hrel
    have Hgk := Lib.hid hgk
    have HPM := Lib.hid hpm
    have HROW := Lib.hid hrow
    have HCH := Lib.hid hch
    obtain ⟨o3, c3, rfl, h31, h32, -⟩ := row_form hrow
    clear hgk hpm hrow hch
    go_wp2_with (at_next; refine wpList_next_of wr (fun e : En => .agg #[.int .i64 e.c, .int .u32 e.p]) (fun e => .agg #[.int .u32 e.f, .int .u8 e.r, .int .u64 e.u]) rfl _ rfl 32 m R left rfl hrg ?_ ?_)
    · intro hl0
      have hp2 : dn.Perm L := by have := HPM.out; rw [hl0, List.append_nil] at this; exact this
      have zz := KZ.out
      have hs := sort_ok ((H.out.frame KW.out (by simp) (by simp)).frame HCH.out (by omega) (by omega)) (HCH.out.blk' KB.out (by omega)) hp2 HL.out HROW.out rfl ⟨by omega, by omega, by omega⟩
      have HS := Lib.hid hs
      have HP2 := Lib.hid hp2
      clear hs hp2 hl0 zz
      go_wp2_with fail
      refine HS.out.mono ?_
      rintro e w2 ⟨rfl, hr2, hc2⟩
      have HR2 := Lib.hid hr2
      have HC2 := Lib.hid hc2
      clear hr2 hc2
      go_wp2
      go_ret
      refine ⟨_, rfl, ?_, ?_⟩
      · rw [← HP2.out.length_eq]
        exact Go.Joins.ownsRow_le HR2.out KW.out.size
      · refine (KW.out.trans HCH.out fun i hi h => by have := KZ.out; omega).trans HC2.out fun i hi h => ?_
        obtain ⟨hb, _⟩ := row_block HROW.out h.symm
        have := KZ.out
        omega
    · intro e w1 hel hrg1 hc1 hz1 hent
      obtain ⟨hrm, hrr, hrne⟩ := hrg.lt
      have HRG1 := Lib.hid hrg1
      have HC1 := Lib.hid (HCH.out.step hc1 (fun _ _ h => h) fun i _ h => h)
      have HROW1 := Lib.hid (row_frame HROW.out hc1 fun g hg h => by
        obtain ⟨hb, _⟩ := row_block HROW.out hg
        have := KZ.out
        omega)
      have HEL := Lib.hid hel
      have HS1 := Lib.hid (show W0.heap.size ≤ w1.heap.size from HC1.out.size)
      have HBD := Lib.hid (show dn.length + 1 ≤ 1000 by
        have a := HPM.out.length_eq
        rw [List.length_append] at a
        have b := List.length_pos_of_mem hel
        have c := HL.out
        omega)
      clear hel hrg1 hc1 hz1 hrg hrm hrr hrne
      go_wp2_with (at_builtin; go_loud (refine wpList_app rfl _ _ 29 rfl W0.heap.size 32 i0 (.agg #[.int .i64 0, .int .u32 0]) 2 16 Try.underlying29 hi hz0 hz1 hz2 rfl (by decide) (.slice o3 dn.length c3) dn.length (dn.flatMap encE) (by rfl) (row_frame HROW1.out (((Chg.refl (fun _ => False) w1).alloc _).alloc _) fun _ _ => id) _ 1 1 [.int .i64 e.c, .int .u32 e.p] (by rfl) (SrcIs.some (by rfl) (by simp [Value.oneCell']) (World.news_of_block (heap_two w1 _ _))) (fun h => by cases h) (by have := HBD.out; unfold maxLen; omega) (by have := HBD.out; omega) (by have := HS1.out; simp; omega) ?_); intro v2 w3 hown hgrow hlie; have HO := Lib.hid hown; have HC3 := Lib.hid (Chg.of_grown hgrow); clear hown hgrow hlie)
      have C2 := Lib.hid (show Chg (fun i => some i = (Value.slice o3 dn.length c3).ownBlock) w1 w3 from (((Chg.refl (fun i => some i = (Value.slice o3 dn.length c3).ownBlock) w1).alloc _).alloc _).trans HC3.out fun _ _ h => h)
      have RB := Lib.hid (fun g hg => (row_block HROW1.out (g := g) hg).1)
      clear HC3
      go_wp2
      go_roundg (left.erase e).length
      case measure =>
        have := Hgk.out
        rw [List.length_erase_of_mem HEL.out]
        have := List.length_pos_of_mem HEL.out
        omega
      case rel =>
        refine ⟨left.erase e, dn ++ [e], rfl, ?_, ?_, HRG1.out.frame C2.out (fun h => ?_) (fun h => ?_), HC1.out.step C2.out (fun _ _ h => h) fun i hi h => ?_⟩
        · rw [List.append_assoc]
          exact ((List.perm_cons_erase HEL.out).symm.append_left dn).trans HPM.out
        · rw [List.flatMap_append, List.length_append]
          exact HO.out
        · have := RB.out m h.symm
          have := KZ.out
          omega
        · have := RB.out R h.symm
          have := KZ.out
          omega
        · have := RB.out i h.symm
          omega
end Go.Proofs.Ytoglgkplddlemaa
