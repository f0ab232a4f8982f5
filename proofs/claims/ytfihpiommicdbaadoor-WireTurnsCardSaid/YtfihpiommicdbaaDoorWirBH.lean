/- The law's pair of readers: contract of reads, bytes. No condition. -/
import Derived.Test.YtfihpiommicdbaaDoorWirBF
namespace Go.Proofs.YtfihpiommicdbaaDoor
open Go.RowKit Go.Cl
set_option linter.unusedVariables false
set_option linter.unusedSimpArgs false
attribute [local go_sem] lt_add_one' blk_alloc_past blk_alloc_at blk_drew blk_setCell_ne

/-- One more, whose blocks are newer than all. -/
theorem _root_.Go.Cl.Sep.add {base n0 : Nat} {w : World} {u : Thing} {L : List Thing} (h : Sep base w L) (hold : ∀ t ∈ L, ∀ i, t.foot i → i < n0) (hu : u.holds w) (hf : ∀ i, u.foot i → n0 ≤ i) (hb : base ≤ n0) : Sep base w (u :: L) := by
  refine ⟨fun t ht => ?_, fun t ht i hi => ?_, List.pairwise_cons.2 ⟨fun t ht i hi hj => ?_, h.apart⟩⟩
  · rcases List.mem_cons.1 ht with rfl | ht
    · exact hu
    · exact h.all t ht
  · rcases List.mem_cons.1 ht with rfl | ht
    · exact Nat.le_trans hb (hf i hi)
    · exact h.above t ht i hi
  · have h1 := hf i hi
    have h2 := hold t ht i hj
    omega
theorem row_low {w : World} {base base' : Nat} {e : TypeId} {size : Nat} {v : Value} {n : Nat} {xs : List Value} (h : w.ownsRow base e size v n xs) (hb : base' ≤ base) : w.ownsRow base' e size v n xs := by
  obtain ⟨h1, h2 | ⟨g, cap, cur, hv, hg, r⟩⟩ := h
  · exact ⟨h1, .inl h2⟩
  · exact ⟨h1, .inr ⟨g, cap, cur, hv, Nat.le_trans hb hg, r⟩⟩
theorem BookAt.rdRow {base B b : Nat} {w w1 : World} {bs : BS} {v x : Value} {s s' : RS} {n : Nat} {xs : List Value} {R : List Thing} (h : BookAt base w B bs (rdT base b v s :: R)) (hb : base ≤ w.heap.size) (hg : RGoes w w1 base b v s') (hrow : w1.ownsRow w.heap.size 5 1 x n xs) :
    BookAt base w1 B bs (rowT base 5 1 x n xs :: rdT base b v s' :: R) ∧ Chg (fun i => base ≤ i) w w1 :=
  h.step fun Z hz => by
    have h1 := hz.rd Z hb hg
    refine ⟨?_, h1.2⟩
    have h2 : Sep base w1 (rowT base 5 1 x n xs :: (Z ++ rdT base b v s' :: R)) := h1.1.add (n0 := w.heap.size) (fun t ht i hi => by
      rcases List.mem_append.1 ht with ht | ht
      · exact t.old (hz.all t (by simp [ht])) hi
      · rcases List.mem_cons.1 ht with rfl | ht
        · exact ((hz.all (rdT base b v s) (by simp) : RdIs w base b v s).foot hi).2
        · exact t.old (hz.all t (by simp [ht])) hi) (row_low hrow hb) (fun i hi => (row_block hrow (show x.ownBlock = some i from hi.symm)).1) hb
    exact h2.perm List.perm_middle.symm
theorem BookAt.vd2 {base B b : Nat} {w w' : World} {bs : BS} {x y : Thing} {v : Value} {s s' : RS} {R : List Thing} (h : BookAt base w B bs (x :: y :: vdT base b v s :: R)) (hb : base ≤ w.heap.size) (hg : VGoes w w' base b v s') : BookAt base w' B bs (x :: y :: vdT base b v s' :: R) ∧ Chg (fun i => base ≤ i) w w' :=
  h.step fun Z hz => by
    have h1 := (show Sep base w ((Z ++ [x, y]) ++ vdT base b v s :: R) by simpa [List.append_assoc] using hz).vd _ hb hg
    exact ⟨by simpa [List.append_assoc] using h1.1, h1.2⟩
theorem rawV_byte {s : RS} (h : ∀ x ∈ s.xs, 0 ≤ x ∧ x ≤ 255) (n : Int) : Bytes (s.rawV n) := by
  unfold RS.rawV
  split
  · exact fun b hb => by simp at hb
  · exact took_byte h _
theorem rawV_few (s : RS) (n : Int) : (s.rawV n).length ≤ s.xs.length := by
  unfold RS.rawV
  split
  · simp
  · exact took_few _ _

set_option maxHeartbeats 4000000 in
set_option maxRecDepth 100000 in
theorem reads_5 {w : World} {base B b b' : Nat} {v v' : Value} {s : RS} {bs : BS} {R : List Thing} (h : BookAt base w B bs (rdT base b v s :: vdT base b' v' s :: R)) (hbs : base ≤ w.heap.size) (hfr : bs.fresh.length ≤ 1000000) (hsx : s.xs.length ≤ 140737488000000) (nn k : Int) (hk : k ≤ 9223372036854775807) (ov : Value) (st : ByteArray) :
    Calls Tryd.prog 28 #[.agg #[.pointer (some ⟨b, 0, none⟩), .pointer (some ⟨b', 0, none⟩)], .agg #[.int .i64 5, .int .u64 nn, .int .i64 k, ov, .string st], .pointer (some ⟨B, 0, none⟩)] w fun e w' => e = .returned (.bool true) ∧ (∃ v1 c, BookAt base w' B { bs with fresh := bs.fresh ++ [(v1, c, s.rawV k)] } (rdT base b v (s.rawS k) :: vdT base b' v' (s.rawS k) :: R)) ∧ Chg (fun i => base ≤ i) w w' := by
  obtain ⟨s2, hs2⟩ : ∃ s2, s2 = s.rawS k := ⟨_, rfl⟩
  obtain ⟨x, hx⟩ : ∃ x, x = s.rawV k := ⟨_, rfl⟩
  rw [← hs2, ← hx]
  have hxl : x.length ≤ 140737488000000 := by rw [hx]; exact Nat.le_trans (rawV_few _ _) hsx
  go_enter Tryd.func28, Tryd.ntmps28
  go_upto_region 1 with (fail)
  obtain ⟨wa, hwa⟩ : ∃ wa, wa = (w.alloc (.cells #[.pointer (some ⟨b, 0, none⟩), .pointer (some ⟨b', 0, none⟩)] 61 (0, 0))).alloc (.cells #[.int .i64 5, .int .u64 nn, .int .i64 k, ov, .string st] 50 (0, 0)) := ⟨_, rfl⟩
  obtain ⟨X, hX⟩ : ∃ X, X = w.heap.size := ⟨_, rfl⟩
  have hc0 : Chg (fun _ => False) w wa := by rw [hwa]; exact ((Chg.refl _ _).alloc _).alloc _
  have HX := Lib.hid (show blk wa X = some (.cells #[.pointer (some ⟨b, 0, none⟩), .pointer (some ⟨b', 0, none⟩)] 61 (0, 0)) by rw [hwa, hX, blk_alloc_past _ _ _ (by simp)]; exact blk_alloc_at _ _ _ rfl)
  have HY := Lib.hid (show blk wa (X + 1) = some (.cells #[.int .i64 5, .int .u64 nn, .int .i64 k, ov, .string st] 50 (0, 0)) by rw [hwa, hX]; exact blk_alloc_at _ _ _ (by simp))
  have HC0 := Lib.hid (hc0.mono fun (i : Nat) _ (h : False) => (show base ≤ i from h.elim))
  have HBA := Lib.hid (h.still hc0)
  have HBS := Lib.hid (Nat.le_trans hbs hc0.size)
  have hR : RdIs wa base b v s := HBA.out.mem (t := rdT base b v s) (by simp)
  have hRl := ((h.mem (t := rdT base b v s) (by simp) : RdIs w base b v s).foot (i := b) (.inl rfl)).2
  have HNX := Lib.hid (show X ≠ b ∧ X + 1 ≠ b by rw [hX]; omega)
  have HXB := Lib.hid (show Bytes x by rw [hx]; exact rawV_byte hR.byte k)
  have HXL := Lib.hid hxl
  have HFR := Lib.hid hfr
  have x0 := cell_of_blk HX.out 0
  have y0 := cell_of_blk HY.out 0
  have y2 := cell_of_blk HY.out 2
  have HN1 := Lib.hid (rraw_ok hR k hk)
  have HN2 := Lib.hid (fun (wy : World) (hv : VdIs wy base b' v' s) => vraw_ok hv k hk)
  rw [← hs2, ← hx] at HN1 HN2
  rw [← hwa, ← hX]
  clear hwa hX hc0 h hbs hR hRl hs2 hx hxl hfr hsx
  go_wp2_with fail
  refine (HN1.out).mono ?_
  rintro e w1 ⟨v1, rfl, hrow1, hg⟩
  have hb1 := HBA.out.rdRow HBS.out hg hrow1
  have HB1 := Lib.hid hb1.1
  have HC1 := Lib.hid hb1.2
  have HS1 := Lib.hid (Nat.le_trans HBS.out hg.2.size)
  have x1 := cell_of_blk (hg.2.blk' HX.out HNX.out.1) 1
  have y2' := cell_of_blk (hg.2.blk' HY.out HNX.out.2) 2
  have HV1 := Lib.hid (show VdIs w1 base b' v' s from hb1.1.mem (t := vdT base b' v' s) (by simp))
  obtain ⟨o1, c1, rfl, -⟩ := row_form hrow1
  clear hg hrow1 hb1 x0 y0 y2
  go_wp2_with fail
  refine (HN2.out _ HV1.out).mono ?_
  rintro e w2 ⟨v2, rfl, hrow2, hg2⟩
  have hb2 := HB1.out.vd2 HS1.out hg2
  have HB2 := Lib.hid hb2.1
  have HC2 := Lib.hid (HC1.out.trans hb2.2 fun _ _ h => h)
  have HSA := Lib.hid (same_ok (row_bytes (show w2.ownsRow base 5 1 (.slice o1 x.length c1) x.length (u8s x) from HB2.out.mem (t := rowT base 5 1 (.slice o1 x.length c1) x.length (u8s x)) (by simp)) HXB.out) (row_bytes hrow2 HXB.out))
  rw [show decide (x = x) = true from decide_eq_true rfl] at HSA
  obtain ⟨o2, c2, rfl, -⟩ := row_form hrow2
  clear hg2 hrow2 hb2 x1 y2'
  go_wp2_with fail
  refine (HSA.out).mono ?_
  rintro e w3 ⟨rfl, hc3⟩
  have HOW := Lib.hid (owns_ok (HB2.out.still hc3) (Nat.le_trans HBS.out (Chg.trans HC2.out hc3 fun _ _ h => h.elim).size) HXB.out HXL.out HFR.out)
  have HC3 := Lib.hid (HC2.out.trans hc3 fun _ _ h => h.elim)
  clear hc3
  go_wp2_with fail
  refine (HOW.out).mono ?_
  rintro e w4 ⟨rfl, c, hb4, hc4⟩
  have HB4 := Lib.hid hb4
  have HC4 := Lib.hid (HC3.out.trans hc4 fun _ _ h => h)
  clear hb4 hc4
  go_wp2
  go_ret
  exact ⟨rfl, ⟨_, c, HB4.out⟩, HC0.out.trans HC4.out fun _ _ h => h⟩
end Go.Proofs.YtfihpiommicdbaaDoor
