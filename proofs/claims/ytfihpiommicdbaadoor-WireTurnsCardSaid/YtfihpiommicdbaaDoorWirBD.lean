/- The Book of the laws: contract of looks. No condition. -/
import Derived.Test.YtfihpiommicdbaaDoorWirBC
import Derived.Test.YtfihpiommicdbaaDoorWirJ
namespace Go.Proofs.YtfihpiommicdbaaDoor
open Go.RowKit Go.Cl
set_option linter.unusedVariables false
set_option linter.unusedSimpArgs false
attribute [local go_sem] lt_add_one' blk_alloc_past blk_alloc_at blk_drew blk_setCell_ne
attribute [local go_sem ↓] Go.wp_at_zero Go.wp_at_succ

/-- A cell of a row of lists. -/
theorem row_get {w : World} {base : Nat} {e : TypeId} {v : Value} {n : Nat} {l : List Value} (h : w.ownsRow base e 1 v n l) (hn : l.length = n) {i : Nat} {x : Value} (hx : l[i]? = some x) : ∃ g c, v = .slice (some ⟨g, 0, none⟩) n c ∧ w.cell? ⟨g, i, none⟩ = some x ∧ n ≤ c ∧ c ≤ maxLen := by
  have hi := (List.getElem?_eq_some_iff.1 hx).1
  obtain ⟨g, cap, cur, hv, hgb, hc1, hc2, hblk, _, hat⟩ := row_at h (by omega)
  exact ⟨g, cap, hv, hat i x hx, hc1, hc2⟩

/-- A list that was held, and the longer one, are laid to the marks. -/
theorem mark_more {base : Nat} {wy w2 : World} {A Y : List Thing} {D : Nat → Prop} {Ld : List (Value × Int)} {ve v' : Value} {len : Nat} {m : Int} (S0 : Sep base wy (A ++ markT D Ld :: rowT base 5 1 ve len (u8s (List.replicate len m)) :: Y)) (hbs : base ≤ wy.heap.size) (hm : 0 ≤ m ∧ m ≤ 255)
    (hrow : w2.ownsRow base 5 1 v' (len + 97) (u8s (longB (List.replicate len m) m))) (hb : BytesIs w2 ve (List.replicate len m)) (hpos : v'.ownBlock = ve.ownBlock ∨ ∃ g, v'.ownBlock = some g ∧ wy.heap.size ≤ g) (hc : Chg (fun i => some i = ve.ownBlock) wy w2) :
    ∃ D3, Sep base w2 (A ++ markT D3 (Ld ++ [(ve, m), (v', m)]) :: Y) := by
  have hap : Apart (markT D Ld) (rowT base 5 1 ve len (u8s (List.replicate len m))) := (List.pairwise_cons.1 (List.pairwise_append.1 S0.apart).2.1).1 _ (by simp)
  have hM : (markT D Ld).holds wy := S0.all _ (by simp)
  have hV : wy.ownsRow base 5 1 ve len (u8s (List.replicate len m)) := S0.all (rowT base 5 1 ve len (u8s (List.replicate len m))) (by simp)
  have el : longB (List.replicate len m) m = List.replicate (len + 97) m := by unfold longB; rw [List.replicate_append_replicate]
  rw [el] at hrow
  have hn : (List.replicate (len + 97) m).length = len + 97 := List.length_replicate
  have hb' : BytesIs w2 v' (List.replicate (len + 97) m) := row_bytes (n := len + 97) hrow fun b hb => by rw [(List.mem_replicate.1 hb).2]; exact hm
  refine ⟨fun i => D i ∨ some i = ve.ownBlock ∨ some i = v'.ownBlock, S0.joinAt.putAt A hbs hc (fun i _ h => .inr h) ⟨fun e he => ?_, fun i hi => ?_⟩ fun i hi => ?_⟩
  · rcases List.mem_append.1 he with he | he
    · obtain ⟨⟨k, hk⟩, hd⟩ := hM.1 e he
      exact ⟨⟨k, hk.frameO hc fun g hg e2 => hap g (hd g hg) e2⟩, fun g hg => .inl (hd g hg)⟩
    · simp only [List.mem_cons, List.not_mem_nil, or_false] at he
      rcases he with rfl | rfl
      · exact ⟨⟨len, hb⟩, fun g hg => .inr (.inl hg.symm)⟩
      · exact ⟨⟨len + 97, hb'⟩, fun g hg => .inr (.inr hg.symm)⟩
  · rcases hi with hi | hi | hi
    · exact Nat.lt_of_lt_of_le (hM.2 i hi) hc.size
    · obtain ⟨_, cur, hcu⟩ := row_block hV hi.symm
      exact Nat.lt_of_lt_of_le (blk_lt hcu) hc.size
    · obtain ⟨_, cur, hcu⟩ := row_block hrow hi.symm
      exact blk_lt hcu
  · have hi : D i ∨ some i = ve.ownBlock ∨ some i = v'.ownBlock := hi
    rcases hi with hi | hi | hi
    · exact .inl (.inl hi)
    · exact .inl (.inr hi)
    · rcases hpos with hp | ⟨g, hp, hg⟩
      · exact .inl (.inr (hi.trans hp))
      · rw [hp] at hi
        cases hi
        exact .inr hg

/-- What the book is at the end of looks. -/
theorem book_end {base B : Nat} {w : World} {lv mv fv wv : Value} {D : Nat → Prop} {L Ld : List (Value × Int)} {fresh : List Ent} {hr tr : Thing} {F : List Thing}
    (h : Sep base w (blkT B (.cells #[lv, mv, .slice none 0 0, .slice none 0 0, fv, wv] 43 (0, 0)) :: rowT base 24 1 lv L.length (L.map fun x : Value × Int => x.1) :: rowT base 5 1 mv L.length (u8s (L.map fun x : Value × Int => x.2)) :: rowT base 24 1 fv fresh.length (fresh.map fun e : Ent => e.1) :: rowT base 24 1 wv fresh.length (fresh.map fun e : Ent => e.2.1) :: hr :: tr :: markT D Ld :: F)) (hLd : ∀ x ∈ L, x ∈ Ld) :
    Sep base w (core base B lv mv (.slice none 0 0) (.slice none 0 0) fv wv D ⟨L, fresh, []⟩ ++ F) := by
  have h1 : Sep base w (blkT B (.cells #[lv, mv, .slice none 0 0, .slice none 0 0, fv, wv] 43 (0, 0)) :: rowT base 24 1 lv L.length (L.map fun x : Value × Int => x.1) :: rowT base 5 1 mv L.length (u8s (L.map fun x : Value × Int => x.2)) :: rowT base 24 1 fv fresh.length (fresh.map fun e : Ent => e.1) :: rowT base 24 1 wv fresh.length (fresh.map fun e : Ent => e.2.1) :: markT D Ld :: F) := by
    refine h.sub ?_
    refine .cons_cons _ (.cons_cons _ (.cons_cons _ (.cons_cons _ (.cons_cons _ ?_))))
    exact .cons _ (.cons _ (List.Sublist.refl _))
  have hM : (markT D Ld).holds w := h1.all _ (by simp)
  have h2 : Sep base w (blkT B (.cells #[lv, mv, .slice none 0 0, .slice none 0 0, fv, wv] 43 (0, 0)) :: rowT base 24 1 lv L.length (L.map fun x : Value × Int => x.1) :: rowT base 5 1 mv L.length (u8s (L.map fun x : Value × Int => x.2)) :: rowT base 24 1 fv fresh.length (fresh.map fun e : Ent => e.1) :: rowT base 24 1 wv fresh.length (fresh.map fun e : Ent => e.2.1) :: markT D L :: F) := by
    refine Sep.perm (L := markT D L :: blkT B (.cells #[lv, mv, .slice none 0 0, .slice none 0 0, fv, wv] 43 (0, 0)) :: rowT base 24 1 lv L.length (L.map fun x : Value × Int => x.1) :: rowT base 5 1 mv L.length (u8s (L.map fun x : Value × Int => x.2)) :: rowT base 24 1 fv fresh.length (fresh.map fun e : Ent => e.1) :: rowT base 24 1 wv fresh.length (fresh.map fun e : Ent => e.2.1) :: F) ?_ (List.perm_middle (l₁ := [_, _, _, _, _])).symm
    have h3 := h1.perm (List.perm_middle (l₁ := [_, _, _, _, _]))
    refine ⟨fun t ht => ?_, fun t ht => ?_, List.pairwise_cons.2 ⟨(List.pairwise_cons.1 h3.apart).1, (List.pairwise_cons.1 h3.apart).2⟩⟩
    · rcases List.mem_cons.1 ht with rfl | ht
      · exact ⟨fun e he => hM.1 e (hLd e he), hM.2⟩
      · exact h3.all t (List.mem_cons_of_mem _ ht)
    · rcases List.mem_cons.1 ht with rfl | ht
      · exact h3.above (markT D Ld) (by simp)
      · exact h3.above t (List.mem_cons_of_mem _ ht)
  have h4 := (h2.nilRow 24 1).nilRow 24 1
  exact h4.perm ((List.perm_append_comm (l₁ := [_, _]) (l₂ := [_, _, _])).append_right _)

set_option maxHeartbeats 16000000 in
set_option maxRecDepth 100000 in
theorem looks_ok {w : World} {base B : Nat} {s : BS} {R : List Thing} (h : BookAt base w B s R) (hbs : base ≤ w.heap.size) (hsm : s.Small) :
    Calls Tryd.prog 21 #[.pointer (some ⟨B, 0, none⟩)] w fun e w' => e = .returned (.bool true) ∧ (∃ L', BookAt base w' B ⟨L', s.fresh, []⟩ R ∧ L'.length = s.L.length + 2 * s.held.length ∧ ∀ x ∈ L', 0 ≤ x.2 ∧ x.2 ≤ 255) ∧ Chg (fun i => base ≤ i) w w' := by
  obtain ⟨lv, mv, fv, wv, hv, tv, D, h⟩ := h
  have hB : blk w B = some (.cells #[lv, mv, fv, wv, hv, tv] 43 (0, 0)) := h.all (blkT B _) (by simp [core])
  have hBb : base ≤ B := h.above (blkT B (.cells #[lv, mv, fv, wv, hv, tv] 43 (0, 0))) (by simp [core]) B rfl
  have hhr : w.ownsRow base 24 1 hv s.held.length (s.held.map fun e : Ent => e.1) := h.all (rowT base 24 1 hv s.held.length (s.held.map fun e : Ent => e.1)) (by simp [core])
  have htr : w.ownsRow base 24 1 tv s.held.length (s.held.map fun e : Ent => e.2.1) := h.all (rowT base 24 1 tv s.held.length (s.held.map fun e : Ent => e.2.1)) (by simp [core])
  have HRW := Lib.hid (fun (e : Ent) (he : e ∈ s.held) => (show w.ownsRow base 5 1 e.1 e.2.2.length (u8s e.2.2) ∧ w.ownsRow base 5 1 e.2.1 e.2.2.length (u8s e.2.2) from ⟨h.all (rowT base 5 1 e.1 e.2.2.length (u8s e.2.2)) (List.mem_append_right _ (List.mem_append_left _ (mem_rows he).1)), h.all (rowT base 5 1 e.2.1 e.2.2.length (u8s e.2.2)) (List.mem_append_right _ (List.mem_append_left _ (mem_rows he).2))⟩))
  have HS := Lib.hid h
  have HSM := Lib.hid hsm
  have HBS := Lib.hid hbs
  have HBB := Lib.hid hBb
  have HB := Lib.hid hB
  have HHR := Lib.hid hhr
  have HTR := Lib.hid htr
  obtain ⟨oH, cH, rfl, -⟩ := row_form hhr
  obtain ⟨oT, cT, rfl, -⟩ := row_form htr
  have hfewh : s.held.length ≤ 1000000 := by have := hsm.l; omega
  clear h hsm hbs hhr htr hB hBb
  go_enter Tryd.func21, Tryd.ntmps21
  go_wp2
  go_loopg [3, 4] s.held.length (fun g s3 s4 wr => ∃ i : Nat, i + g = s.held.length ∧ s4 = .int .i64 i ∧ s3 = .bool true ∧ Chg (fun _ => False) w wr)
  case atStart => exact ⟨0, by omega, rfl, rfl, Chg.refl _ _⟩
  case round =>
    obtain ⟨i, hig, rfl, rfl, hc⟩ := hrel
    have hBr := hc.blk' HB.out id
    have yb := blk_lt hBr
    have y4 := cell_of_blk hBr 4
    have y5 := cell_of_blk hBr 5
    have HC := Lib.hid hc
    have HIG := Lib.hid hig
    clear hBr
    by_cases hlt : i < s.held.length
    · have hlt' : (i : Int) < (s.held.length : Int) := by omega
      obtain ⟨e, he⟩ : ∃ e, s.held[i]? = some e := ⟨_, List.getElem?_eq_getElem hlt⟩
      obtain ⟨gh, ch, e1, c1, -⟩ := row_get (row_frame HHR.out hc fun _ _ => id) (by simp) (i := i) (x := e.1) (by rw [List.getElem?_map, he]; rfl)
      obtain ⟨gt, ct, e2, c2, -⟩ := row_get (row_frame HTR.out hc fun _ _ => id) (by simp) (i := i) (x := e.2.1) (by rw [List.getElem?_map, he]; rfl)
      simp only [Value.slice.injEq] at e1 e2
      obtain ⟨rfl, -, rfl⟩ := e1
      obtain ⟨rfl, -, rfl⟩ := e2
      have hmem : e ∈ s.held := List.mem_of_getElem? he
      have HBy := Lib.hid (HSM.out.e e (by simp [hmem])).2
      have HSA := Lib.hid (fun wy (hy : Chg (fun _ => False) wr wy) => same_ok (row_bytes (row_frame (HRW.out e hmem).1 (HC.out.trans hy fun _ _ => id) fun _ _ => id) HBy.out) (row_bytes (row_frame (HRW.out e hmem).2 (HC.out.trans hy fun _ _ => id) fun _ _ => id) HBy.out))
      have hde : decide (e.2.2 = e.2.2) = true := decide_eq_true rfl
      rw [hde] at HSA
      have HLT := Lib.hid hlt
      obtain ⟨ve, ce, xe⟩ := e
      dsimp only at c1 c2 HSA
      clear hig hc he hde hmem
      go_upto_region 5 with (fail)
      go_still_tail 14, (by kernel_rfl)
      change wpList _ _ _ _ _ (World.drew wr)
      go_wp2_with fail
      refine (HSA.out _ (Chg.refl _ _).drew).mono ?_
      rintro e1 w1 ⟨rfl, hc1⟩
      have HC1 := Lib.hid ((HC.out.drew).trans hc1 fun _ _ => id)
      clear hc1 HSA
      go_wp2
      go_roundg (s.held.length - (i + 1))
      case measure => have := HLT.out; have := HIG.out; omega
      case rel => exact ⟨i + 1, by have := HLT.out; omega, by go_num, rfl, HC1.out⟩
    · have hke : i = s.held.length := by omega
      clear hig
      subst hke
      obtain ⟨F, hF⟩ : ∃ F, F = rowsOf base s.fresh ++ R := ⟨_, rfl⟩
      have HF := Lib.hid hF
      have S1 : Sep base wr (coreM base B lv mv fv wv (.slice oH s.held.length cH) (.slice oT s.held.length cT) D s.L s.L s.held s.fresh ++ (vrows base s.held ++ F)) := by
        rw [hF]
        exact (HS.out.frame HC.out).sub (List.Sublist.append (List.Sublist.refl _) (List.Sublist.append (rows_v base s.held) (List.Sublist.refl _)))
      have HS1 := Lib.hid S1
      have HW := Lib.hid (HC.out.mono fun (i : Nat) _ (h : False) => (show base ≤ i from h.elim))
      have hBs := Nat.le_trans HBS.out HC.out.size
      have HBs := Lib.hid hBs
      have hsm1 := HSM.out.l
      have hlr : wr.ownsRow base 24 1 lv s.L.length (s.L.map fun x => x.1) := S1.all (rowT base 24 1 lv s.L.length (s.L.map fun x : Value × Int => x.1)) (by simp [coreM])
      have y0 := cell_of_blk (hc.blk' HB.out id) 0
      obtain ⟨oL, cL, rfl, -⟩ := row_form hlr
      clear hc hF S1 hBs hlr y5
      go_wp2
      obtain ⟨n, hn⟩ : ∃ n, n = s.L.length := ⟨_, rfl⟩
      rw [← hn]
      have HN := Lib.hid hn
      clear hn y0 y4 yb
      go_loopg [7] s.held.length (fun g s7 wq => ∃ (i : Nat) (lv mv : Value), i + g = s.held.length ∧ s7 = .int .i64 i ∧ Sep base wq (coreM base B lv mv fv wv (.slice oH s.held.length cH) (.slice oT s.held.length cT) D (s.L ++ pz n (s.held.take i)) s.L s.held s.fresh ++ (pend base n (s.held.take i) ++ (vrows base (s.held.drop i) ++ F))) ∧ Chg (fun i => base ≤ i) w wq)
      case atStart => exact ⟨0, _, _, by omega, rfl, by simpa [pz, pend] using HS1.out, HW.out⟩
      case round =>
        rename World => wq
        obtain ⟨i, lv2, mv2, hig, rfl, hS, hc⟩ := hrel
        have HIG := Lib.hid hig
        have HC2 := Lib.hid hc
        have HSi := Lib.hid hS
        have hSn := hS
        unfold coreM at hSn
        simp only [List.cons_append, List.nil_append] at hSn
        have hB2 := hSn.head
        have hlr := hSn.at [_]
        have hmr := hSn.at [_, _]
        have hhr := hSn.at [_, _, _, _, _]
        have hll : (s.L ++ pz n (s.held.take i)).length = n + i := by rw [List.length_append, pz_len, List.length_take, ← HN.out]; omega
        rw [hll] at hlr hmr
        have HLR := Lib.hid (show wq.ownsRow base 24 1 lv2 (n + i) ((s.L ++ pz n (s.held.take i)).map fun x : Value × Int => x.1) from hlr)
        have HMR := Lib.hid (show wq.ownsRow base 5 1 mv2 (n + i) (u8s ((s.L ++ pz n (s.held.take i)).map fun x : Value × Int => x.2)) from hmr)
        have HHR2 := Lib.hid (show wq.ownsRow base 24 1 (.slice oH s.held.length cH) s.held.length (s.held.map fun e : Ent => e.1) from hhr)
        obtain ⟨oL2, cL2, rfl, -⟩ := row_form hlr
        obtain ⟨oM2, cM2, rfl, -⟩ := row_form hmr
        have yb := blk_lt hB2
        have y0 := cell_of_blk hB2 0
        have y4 := cell_of_blk hB2 4
        have hnb : n + i ≤ 2000000 := by rw [← HN.out] at hsm1; omega
        clear hS hSn hB2 hlr hmr hhr hc hll
        by_cases hlt : i < s.held.length
        · have hlt' : (i : Int) < (s.held.length : Int) := by omega
          obtain ⟨e, he⟩ : ∃ e, s.held[i]? = some e := ⟨_, List.getElem?_eq_getElem hlt⟩
          obtain ⟨gh, ch, e1, c1, -⟩ := row_get HHR2.out (by simp) (i := i) (x := e.1) (by rw [List.getElem?_map, he]; rfl)
          simp only [Value.slice.injEq] at e1
          obtain ⟨rfl, -, rfl⟩ := e1
          have HE := Lib.hid he
          have HLT := Lib.hid hlt
          have hme : e ∈ s.held := List.mem_of_getElem? he
          have HXB := Lib.hid (HSM.out.e e (by simp [hme]))
          have hxl := (HSM.out.e e (by simp [hme])).1
          have S3 := HSi.out
          rw [drop_consE he] at S3
          have S4 : Sep base wq ((coreM base B (.slice oL2 (n + i) cL2) (.slice oM2 (n + i) cM2) fv wv (.slice (some ⟨gh, 0, none⟩) s.held.length cH) (.slice oT s.held.length cT) D (s.L ++ pz n (s.held.take i)) s.L s.held s.fresh ++ pend base n (s.held.take i)) ++ rowT base 5 1 e.1 e.2.2.length (u8s (overM (mk (n + i)) e.2.2 0)) :: (vrows base (s.held.drop (i + 1)) ++ F)) := by
            rw [overM_zero]
            simpa [List.append_assoc, vrows] using S3
          obtain ⟨ve, ce, xe⟩ := e
          dsimp only at S4 c1 HXB hxl
          have HS4 := Lib.hid S4
          obtain ⟨A, hA⟩ : ∃ A, A = coreM base B (.slice oL2 (n + i) cL2) (.slice oM2 (n + i) cM2) fv wv (.slice (some ⟨gh, 0, none⟩) s.held.length cH) (.slice oT s.held.length cT) D (s.L ++ pz n (s.held.take i)) s.L s.held s.fresh ++ pend base n (s.held.take i) := ⟨_, rfl⟩
          have HA := Lib.hid hA
          rw [← hA] at HS4
          have hmod : ((n : Int) + (i : Int)).tmod 254 = (((n + i) % 254 : Nat) : Int) := by rw [Int.tmod_eq_emod_of_nonneg (by omega)]; rfl
          have hmod2 : ((n : Int) + (i : Int)) % 254 = (((n + i) % 254 : Nat) : Int) := rfl
          obtain ⟨q, hq⟩ : ∃ q, q = (n + i) % 254 := ⟨_, rfl⟩
          rw [← hq] at hmod hmod2
          have hqb : q < 254 := by omega
          have hmk : mk (n + i) = (q : Int) + 1 := by unfold mk; rw [← hq]; rfl
          have wq1 : IntKind.i64.wrap ((q : Int) + 1) = (q : Int) + 1 := by rw [IntKind.wrap_i64]; omega
          have wq2 : IntKind.u8.wrap ((q : Int) + 1) = (q : Int) + 1 := by rw [IntKind.wrap_u8]; omega
          have HMK := Lib.hid hmk
          clear S3 S4 he hme hA hq hmk hig hlt
          go_wp2
          obtain ⟨C, hC⟩ : ∃ C, C = vrows base (s.held.drop (i + 1)) ++ F := ⟨_, rfl⟩
          have HCC := Lib.hid hC
          rw [← hC] at HS4
          clear hC
          have HAB := Lib.hid (fun (w' : World) (X : List Thing) (h : Sep base w' (A ++ X)) => (show blk w' B = some (.cells #[.slice oL2 (n + i) cL2, .slice oM2 (n + i) cM2, fv, wv, .slice (some ⟨gh, 0, none⟩) s.held.length cH, .slice oT s.held.length cT] 43 (0, 0)) ∧ w'.ownsRow base 24 1 (.slice (some ⟨gh, 0, none⟩) s.held.length cH) s.held.length (s.held.map fun e : Ent => e.1) from by
            rw [HA.out] at h
            exact ⟨h.all (blkT B _) (by simp [coreM]), h.all (rowT base 24 1 (.slice (some ⟨gh, 0, none⟩) s.held.length cH) s.held.length (s.held.map fun e : Ent => e.1)) (by simp [coreM])⟩))
          have HGI := Lib.hid (fun (w' : World) (h : w'.ownsRow base 24 1 (.slice (some ⟨gh, 0, none⟩) s.held.length cH) s.held.length (s.held.map fun e : Ent => e.1)) => (show w'.cell? ⟨gh, i, none⟩ = some ve from by
            obtain ⟨g9, c9, e9, h9, -⟩ := row_get h (by simp) (i := i) (x := ve) (by rw [List.getElem?_map, HE.out]; rfl)
            simp only [Value.slice.injEq, Option.some.injEq, Addr.mk.injEq, true_and, and_true] at e9
            rw [e9.1]
            exact h9))
          clear y0 y4 c1 yb hmod hmod2
          go_loopg [9] xe.length (fun g s9 wr => ∃ (k : Nat), k + g = xe.length ∧ s9 = .int .i64 k ∧ Sep base wr (A ++ rowT base 5 1 ve xe.length (u8s (overM (mk (n + i)) xe k)) :: C) ∧ Chg (fun i => base ≤ i) w wr)
          case atStart => exact ⟨0, by omega, rfl, HS4.out, HC2.out⟩
          case round =>
            rename World => wk
            obtain ⟨k, hkg, rfl, hS, hc⟩ := hrel
            have HKG := Lib.hid hkg
            have HCk := Lib.hid hc
            have HSk := Lib.hid hS
            obtain ⟨hBk, hHk⟩ := HAB.out wk _ hS
            have yb := blk_lt hBk
            have y4 := cell_of_blk hBk 4
            have c1 := HGI.out wk hHk
            have hrow : wk.ownsRow base 5 1 ve xe.length (u8s (overM (mk (n + i)) xe k)) := hS.at A
            have HRk := Lib.hid hrow
            by_cases hkl : k < xe.length
            · have hkl' : (k : Int) < (xe.length : Int) := by omega
              obtain ⟨g5, cap5, cur5, hv5, hgb5, _, _, hblk5, _, hat5⟩ := row_at hrow (by omega)
              subst hv5
              have hol : k < (overM (mk (n + i)) xe k).length := by rw [overM_len (by omega)]; exact hkl
              have hcell := hat5 k (.int .u8 (overM (mk (n + i)) xe k)[k]) (by rw [List.getElem?_map, List.getElem?_eq_getElem hol]; rfl)
              have hfz := frozen_of_blk hblk5 k
              have HO := Lib.hid (overM_succ (m := mk (n + i)) hkl)
              have HST := Lib.hid (row_set (v := mk (n + i)) hrow hkl)
              generalize (overM (mk (n + i)) xe k)[k] = y at *
              have HLK := Lib.hid hkl
              have HGB := Lib.hid hgb5
              clear hS hc hBk hHk hrow hat5 hblk5 hol hgb5 hkl
              go_wp2
              go_roundg (xe.length - (k + 1))
              case measure => have := HLK.out; have := HKG.out; omega
              case rel =>
                refine ⟨k + 1, by have := HLK.out; omega, by go_num, ?_, HCk.out.setCell (p := ⟨g5, k, none⟩) (fun _ => HGB.out) _⟩
                have h9 := HST.out
                rw [HO.out, HMK.out] at h9
                rw [HMK.out]
                exact HSk.out.putAt A (Nat.le_trans HBS.out HCk.out.size) ((Chg.refl (fun i => i = g5) wk).setCell (p := ⟨g5, k, none⟩) (fun _ => rfl) _) (fun j _ hj => by rw [hj]; rfl) h9 fun j hj => .inl hj
            · have hke : k = xe.length := by omega
              subst hke
              clear hkg c1
              have S5 : Sep base wk (coreM base B (.slice oL2 (n + i) cL2) (.slice oM2 (n + i) cM2) fv wv (.slice (some ⟨gh, 0, none⟩) s.held.length cH) (.slice oT s.held.length cT) D (s.L ++ pz n (s.held.take i)) s.L s.held s.fresh ++ (pend base n (s.held.take i) ++ (rowT base 5 1 ve xe.length (u8s (List.replicate xe.length (mk (n + i)))) :: C))) := by
                have h := HSk.out
                rw [overM_all, HA.out] at h
                simpa [List.append_assoc] using h
              obtain ⟨Y, hY⟩ : ∃ Y, Y = pend base n (s.held.take i) ++ (rowT base 5 1 ve xe.length (u8s (List.replicate xe.length (mk (n + i)))) :: C) := ⟨_, rfl⟩
              have HY := Lib.hid hY
              rw [← hY] at S5
              unfold coreM at S5
              simp only [List.cons_append, List.nil_append] at S5
              have hll : (s.L ++ pz n (s.held.take i)).length = n + i := by rw [List.length_append, pz_len, List.length_take, ← HN.out]; have := HLT.out; omega
              rw [hll] at S5
              have HLL := Lib.hid hll
              have HS5 := Lib.hid S5
              have HBk := Lib.hid (Nat.le_trans HBS.out hc.size)
              have HLR5 := Lib.hid (fun (wy : World) (hy : Chg (fun _ => False) wk wy) => (show wy.ownsRow base 24 1 (.slice oL2 (n + i) cL2) (n + i) ((s.L ++ pz n (s.held.take i)).map fun x : Value × Int => x.1) from row_frame (S5.at [_]) hy fun _ _ => id))
              have y0 := cell_of_blk S5.head 0
              have c1 := HGI.out wk (S5.at [_, _, _, _, _])
              obtain ⟨ov, cv, rfl, -⟩ := row_form hrow
              have hz0' := frozen_of_blk S5.head 0
              clear hS hc hBk hHk hrow hY S5 hll HGI HAB
              obtain ⟨i1, ji, jz0, jz1, jz2⟩ := info24b
              go_upto_region 16 with (fail)
              go_cut [7] from 47 to 111 (fun s7 wz => s7 = .int .i64 i ∧ ∃ lv3, Sep base wz (blkT B (.cells #[lv3, .slice oM2 (n + i) cM2, fv, wv, .slice (some ⟨gh, 0, none⟩) s.held.length cH, .slice oT s.held.length cT] 43 (0, 0)) :: rowT base 24 1 lv3 (n + i + 1) ((s.L ++ pz n (s.held.take i)).map (fun x : Value × Int => x.1) ++ [.slice ov xe.length cv]) :: rowT base 5 1 (.slice oM2 (n + i) cM2) (n + i) (u8s ((s.L ++ pz n (s.held.take i)).map fun x : Value × Int => x.2)) :: rowT base 24 1 fv s.fresh.length (s.fresh.map fun e : Ent => e.1) :: rowT base 24 1 wv s.fresh.length (s.fresh.map fun e : Ent => e.2.1) :: rowT base 24 1 (.slice (some ⟨gh, 0, none⟩) s.held.length cH) s.held.length (s.held.map fun e : Ent => e.1) :: rowT base 24 1 (.slice oT s.held.length cT) s.held.length (s.held.map fun e : Ent => e.2.1) :: markT D s.L :: Y) ∧ Chg (fun i => base ≤ i) wk wz)
              case first =>
                go_region_law (first | (refine step_app rfl _ _ _ (by rfl) base 24 i1 (.slice none 0 0) 1 24 Tryd.underlying22 ji jz0 jz1 jz2 rfl (by decide) _ (n + i) _ (by rfl) (HLR5.out _ (by repeat (first | exact Chg.refl _ _ | apply Chg.drew | (refine Chg.setCell ?_ (by simp) _) | (refine Chg.alloc ?_ _) | (refine Chg.setBlock ?_ (by simp) _)))) _ 1 1 [.slice ov xe.length cv] (by rfl) (SrcIs.some (by rfl) (by simp [Value.oneCell']) (by first | exact World.news_of_block (heap_alloc_new _ _) | exact World.news_of_block (w := World.drew _) (heap_alloc_new _ _))) (fun h => by cases h) (by unfold maxLen; omega) (by omega) (by have := HBk.out; simp; omega) ?_; intro v3 w3 hown hgrow hlie; have S6 := Sep.app2 [_] (HS5.out.frame (show Chg (fun _ => False) wk _ by repeat (first | exact Chg.refl _ _ | apply Chg.drew | (refine Chg.setCell ?_ (by simp) _) | (refine Chg.alloc ?_ _) | (refine Chg.setBlock ?_ (by simp) _)))) (by have := HBk.out; simp; omega) hown hgrow hlie; have y0' := cell_of_blk S6.1.head 0; have z0' := frozen_of_blk S6.1.head 0; have HS6 := Lib.hid S6.1; have HC6 := Lib.hid (Chg.trans (show Chg (fun i => base ≤ i) wk _ by repeat (first | exact Chg.refl _ _ | apply Chg.drew | (refine Chg.setCell ?_ (by simp) _) | (refine Chg.alloc ?_ _) | (refine Chg.setBlock ?_ (by simp) _))) S6.2 fun _ _ h => h); obtain ⟨o3, c3, rfl, -⟩ := row_form hown; clear hown hgrow hlie S6))
                all_goals
                  go_wp2
                  go_meet
                  case rel => exact ⟨rfl, _, HS6.out.cell (i := 0) (x := .slice o3 (n + i + 1) c3) (Nat.le_trans HBk.out HC6.out.size) (by simp [objSet]), HC6.out.setCell (p := ⟨B, 0, none⟩) (fun _ => HBB.out) _⟩
              case rest =>
                obtain ⟨rfl, lv3, S7, hc7⟩ := hcut
                have HS7 := Lib.hid S7
                have HC7 := Lib.hid hc7
                have yb7 := blk_lt S7.head
                have y1 := cell_of_blk S7.head 1
                have hmr := S7.at [_, _]
                have HMR7 := Lib.hid (show wc.ownsRow base 5 1 (.slice oM2 (n + i) cM2) (n + i) (u8s ((s.L ++ pz n (s.held.take i)).map fun x : Value × Int => x.2)) from hmr)
                have HB7 := Lib.hid (Nat.le_trans HBk.out hc7.size)
                obtain ⟨i0, hi, hz0, hz1, hz2⟩ := info5z
                clear S7 hc7 hmr y0 y4 hz0' yb c1
                go_wp2_with (at_builtin; refine wpList_app rfl _ _ 24 rfl base 5 i0 (.int .u8 0) 1 1 Tryd.underlying24 hi hz0 hz1 hz2 rfl (by decide) _ (n + i) _ (by rfl) (row_frame HMR7.out ((Chg.refl (fun _ => False) wc).alloc _) fun _ _ => id) _ 1 1 [.int .u8 ((q : Int) + 1)] (by rfl) (SrcIs.some (by rfl) (by simp [Value.oneCell']) (World.news_of_block (heap_alloc_new _ _))) (fun h => by cases h) (by unfold maxLen; omega) (by omega) (by have := HB7.out; simp; omega) ?_; intro v8 w8 hown hgrow hlie; have S8 := Sep.app2 [_, _] (HS7.out.frame ((Chg.refl (fun _ => False) wc).alloc _)) (by have := HB7.out; simp; omega) hown hgrow hlie; have y8 := cell_of_blk S8.1.head 1; have z8 := frozen_of_blk S8.1.head 1; have HS8 := Lib.hid S8.1; have HC8 := Lib.hid (((Chg.refl (fun i => base ≤ i) wc).alloc _).trans S8.2 fun _ _ h => h); obtain ⟨o8, c8, rfl, -⟩ := row_form hown; clear hown hgrow hlie S8)
                go_roundg (s.held.length - (i + 1))
                case measure => have := HLT.out; have := HIG.out; omega
                case rel =>
                  have S9 := HS8.out.cell (i := 1) (x := .slice o8 (n + i + 1) c8) (Nat.le_trans HB7.out HC8.out.size) (cs' := #[lv3, .slice o8 (n + i + 1) c8, fv, wv, .slice (some ⟨gh, 0, none⟩) s.held.length cH, .slice oT s.held.length cT]) (by simp [objSet])
                  refine ⟨i + 1, lv3, .slice o8 (n + i + 1) c8, by have := HLT.out; omega, by go_num, ?_, (((HCk.out.trans HC7.out fun _ _ h => h).trans HC8.out fun _ _ h => h).setCell (p := ⟨B, 1, none⟩) (fun _ => HBB.out) _)⟩
                  have et := take_snocE HE.out
                  have el : (s.held.take i).length = i := by rw [List.length_take]; have := HLT.out; omega
                  rw [et, pz_snoc, pend_snoc, el]
                  have e1 : (s.L ++ (pz n (s.held.take i) ++ [(Value.slice ov xe.length cv, mk (n + i))])).length = n + i + 1 := by rw [← List.append_assoc, List.length_append, HLL.out]; rfl
                  unfold coreM
                  rw [e1]
                  rw [HY.out, HCC.out] at S9
                  simpa [u8s, HMK.out, List.append_assoc] using S9
        · have hke : i = s.held.length := by omega
          clear hig hlt
          subst hke
          obtain ⟨P, hP⟩ : ∃ P, P = pz n s.held := ⟨_, rfl⟩
          have HP := Lib.hid hP
          have hPl : P.length = s.held.length := by rw [hP, pz_len]
          have HPL := Lib.hid hPl
          have S3 : Sep base wq (coreM base B (.slice oL2 (n + s.held.length) cL2) (.slice oM2 (n + s.held.length) cM2) fv wv (.slice oH s.held.length cH) (.slice oT s.held.length cT) D (s.L ++ (P ++ [])) s.L s.held s.fresh ++ (pend base (n + 0) (s.held.drop 0) ++ F)) := by
            have h := HSi.out
            rw [List.take_length, List.drop_length, ← hP] at h
            simpa [vrows] using h
          have HS3 := Lib.hid S3
          obtain ⟨i0, hi, hz0, hz1, hz2⟩ := info5z
          obtain ⟨i1, ji, jz0, jz1, jz2⟩ := info24b
          clear hP S3 hPl
          go_wp2
          go_loopg [11] s.held.length (fun g s11 wr => ∃ (j : Nat) (lv mv : Value) (Q Ld : List (Value × Int)) (D2 : Nat → Prop), j + g = s.held.length ∧ s11 = .int .i64 ((n + j : Nat) : Int) ∧ Q.length = j ∧ (∀ x ∈ Q, 0 ≤ x.2 ∧ x.2 ≤ 255) ∧ (∀ x, x ∈ s.L ∨ x ∈ P.take j ∨ x ∈ Q → x ∈ Ld) ∧ Sep base wr (coreM base B lv mv fv wv (.slice oH s.held.length cH) (.slice oT s.held.length cT) D2 (s.L ++ (P ++ Q)) Ld s.held s.fresh ++ (pend base (n + j) (s.held.drop j) ++ F)) ∧ Chg (fun i => base ≤ i) w wr)
          case atStart => exact ⟨0, _, _, [], s.L, D, by omega, rfl, rfl, by simp, by simp, HS3.out, HC2.out⟩
          case round =>
            rename World => wk
            obtain ⟨j, lv4, mv4, Q, Ld, D2, hjg, rfl, hQl, hQb, hLd, hS, hc⟩ := hrel
            have HJG := Lib.hid hjg
            have HQL := Lib.hid hQl
            have HQB := Lib.hid hQb
            have HLD := Lib.hid hLd
            have HCk := Lib.hid hc
            have HSk := Lib.hid hS
            have hll : (s.L ++ (P ++ Q)).length = n + s.held.length + j := by rw [List.length_append, List.length_append, HPL.out, hQl, ← HN.out]; omega
            have hSn := hS
            unfold coreM at hSn
            simp only [List.cons_append, List.nil_append] at hSn
            rw [hll] at hSn
            have HLL := Lib.hid hll
            have hlr := hSn.at [_]
            have hmr := hSn.at [_, _]
            have yb := blk_lt hSn.head
            have y0 := cell_of_blk hSn.head 0
            have y1 := cell_of_blk hSn.head 1
            have HLR := Lib.hid (show wk.ownsRow base 24 1 lv4 (n + s.held.length + j) ((s.L ++ (P ++ Q)).map fun x : Value × Int => x.1) from hlr)
            have HMR := Lib.hid (show wk.ownsRow base 5 1 mv4 (n + s.held.length + j) (u8s ((s.L ++ (P ++ Q)).map fun x : Value × Int => x.2)) from hmr)
            obtain ⟨oL4, cL4, rfl, -⟩ := row_form hlr
            obtain ⟨oM4, cM4, rfl, -⟩ := row_form hmr
            have HSN := Lib.hid hSn
            clear hQl hQb hLd hS hSn hlr hmr hc hll
            by_cases hjl : j < s.held.length
            · have hjl' : (n : Int) + (j : Int) < (n : Int) + (s.held.length : Int) := by omega
              obtain ⟨e, he⟩ : ∃ e, s.held[j]? = some e := ⟨_, List.getElem?_eq_getElem hjl⟩
              have HE := Lib.hid he
              have HJL := Lib.hid hjl
              have hat : (s.L ++ (P ++ Q))[n + j]? = some (e.1, mk (n + j)) := by
                rw [List.getElem?_append_right (by rw [← HN.out]; omega), List.getElem?_append_left (by rw [HPL.out, ← HN.out]; omega), HP.out, ← HN.out, Nat.add_sub_cancel_left]
                exact pz_at _ _ _ _ he
              obtain ⟨g1, k1, e1, c1, -⟩ := row_get HLR.out (by rw [List.length_map]; exact HLL.out) (i := n + j) (x := e.1) (by rw [List.getElem?_map, hat]; rfl)
              obtain ⟨g2, k2, e2, c2, -⟩ := row_get HMR.out (by unfold u8s; rw [List.length_map, List.length_map]; exact HLL.out) (i := n + j) (x := .int .u8 (mk (n + j))) (by unfold u8s; rw [List.getElem?_map, List.getElem?_map, hat]; rfl)
              simp only [Value.slice.injEq] at e1 e2
              obtain ⟨rfl, -, rfl⟩ := e1
              obtain ⟨rfl, -, rfl⟩ := e2
              have hme : e ∈ s.held := List.mem_of_getElem? he
              have hxl := (HSM.out.e e (by simp [hme])).1
              have HXL := Lib.hid hxl
              have S5 := HSN.out
              rw [pend_drop base s.held n j e he] at S5
              obtain ⟨Y, hY⟩ : ∃ Y, Y = pend base (n + (j + 1)) (s.held.drop (j + 1)) ++ F := ⟨_, rfl⟩
              have HY := Lib.hid hY
              simp only [List.cons_append] at S5
              rw [← hY] at S5
              obtain ⟨ve, ce, xe⟩ := e
              dsimp only at S5 c1 hat hxl HXL
              obtain ⟨m, hm⟩ : ∃ m, m = mk (n + j) := ⟨_, rfl⟩
              have hmb := mk_bd (n + j)
              rw [← hm] at S5 c2 hat hmb
              have HM := Lib.hid hm
              have HMB := Lib.hid hmb
              have HAT := Lib.hid hat
              have hrv : wk.ownsRow base 5 1 ve xe.length (u8s (List.replicate xe.length m)) := S5.at [_, _, _, _, _, _, _, _]
              have HBk := Lib.hid (Nat.le_trans HBS.out HCk.out.size)
              have HLG := Lib.hid (fun (wy : World) (hy : Chg (fun _ => False) wk wy) => longer_ok (v := ve) (xs := List.replicate xe.length m) (base := base) (w := wy) (by rw [List.length_replicate]; exact row_frame hrv hy fun _ _ => id) (fun b hb => by rw [(List.mem_replicate.1 hb).2]; exact HMB.out) (Nat.le_trans HBk.out hy.size) m HMB.out.1 HMB.out.2 (by rw [List.length_replicate]; exact HXL.out))
              rw [List.length_replicate] at HLG
              obtain ⟨A, hA⟩ : ∃ A : List Thing, A = [rowT base 24 1 (.slice (some ⟨g1, 0, none⟩) (n + s.held.length + j) cL4) (n + s.held.length + j) ((s.L ++ (P ++ Q)).map fun x : Value × Int => x.1), rowT base 5 1 (.slice (some ⟨g2, 0, none⟩) (n + s.held.length + j) cM4) (n + s.held.length + j) (u8s ((s.L ++ (P ++ Q)).map fun x : Value × Int => x.2)), rowT base 24 1 fv s.fresh.length (s.fresh.map fun e : Ent => e.1), rowT base 24 1 wv s.fresh.length (s.fresh.map fun e : Ent => e.2.1), rowT base 24 1 (.slice oH s.held.length cH) s.held.length (s.held.map fun e : Ent => e.1), rowT base 24 1 (.slice oT s.held.length cT) s.held.length (s.held.map fun e : Ent => e.2.1)] := ⟨_, rfl⟩
              have HA := Lib.hid hA
              have S6 : Sep base wk ((blkT B (.cells #[.slice (some ⟨g1, 0, none⟩) (n + s.held.length + j) cL4, .slice (some ⟨g2, 0, none⟩) (n + s.held.length + j) cM4, fv, wv, .slice oH s.held.length cH, .slice oT s.held.length cT] 43 (0, 0)) :: A) ++ markT D2 Ld :: rowT base 5 1 ve xe.length (u8s (List.replicate xe.length m)) :: Y) := by
                rw [hA]
                exact S5
              have HS6 := Lib.hid S6
              have hnb : n + s.held.length + j ≤ 3000000 := by have := HN.out; omega
              have HNB := Lib.hid hnb
              have HOV := Lib.hid (fun (i : Nat) (h : some i = ve.ownBlock) => (row_block hrv h.symm).1)
              obtain ⟨ov, cv, rfl, -⟩ := row_form hrv
              clear S5 S6 hA hY he hme hat hm hmb hrv hjl
              have hx0 : (0 : Int) ≤ (n : Int) + (j : Int) := by omega
              have hx1 : ((n : Int) + (j : Int)).toNat = n + j := by omega
              have hx2 : (n : Int) < (n : Int) + (s.held.length : Int) := by have := HJL.out; omega
              have HCE := Lib.hid (fun (w' : World) (b0 : Value) (lx : Thing) (X : List Thing) (h : Sep base w' (blkT B (.cells #[b0, .slice (some ⟨g2, 0, none⟩) (n + s.held.length + j) cM4, fv, wv, .slice oH s.held.length cH, .slice oT s.held.length cT] 43 (0, 0)) :: lx :: (A.drop 1 ++ X))) => (show w'.cell? ⟨B, 1, none⟩ = some (.slice (some ⟨g2, 0, none⟩) (n + s.held.length + j) cM4) ∧ w'.cell? ⟨g2, n + j, none⟩ = some (.int .u8 m) from by
                rw [HA.out] at h
                refine ⟨cell_of_blk h.head 1, ?_⟩
                obtain ⟨g9, k9, e9, h9, -⟩ := row_get (h.at [_, _]) (by unfold u8s; rw [List.length_map, List.length_map]; exact HLL.out) (i := n + j) (x := .int .u8 m) (by unfold u8s; rw [List.getElem?_map, List.getElem?_map, HAT.out]; rfl)
                simp only [Value.slice.injEq, Option.some.injEq, Addr.mk.injEq, true_and, and_true] at e9
                rw [e9.1]
                exact h9))
              have HS6b := Lib.hid (show Sep base wk (blkT B (.cells #[.slice (some ⟨g1, 0, none⟩) (n + s.held.length + j) cL4, .slice (some ⟨g2, 0, none⟩) (n + s.held.length + j) cM4, fv, wv, .slice oH s.held.length cH, .slice oT s.held.length cT] 43 (0, 0)) :: rowT base 24 1 (.slice (some ⟨g1, 0, none⟩) (n + s.held.length + j) cL4) (n + s.held.length + j) ((s.L ++ (P ++ Q)).map fun x : Value × Int => x.1) :: (A.drop 1 ++ markT D2 Ld :: rowT base 5 1 (.slice ov xe.length cv) xe.length (u8s (List.replicate xe.length m)) :: Y)) from by
                have h := HS6.out
                rw [HA.out] at h ⊢
                exact h)
              clear y1 c2
              go_upto_region 22 with (fail)
              go_cut [11] from 118 to 162 (fun s11 wz => s11 = .int .i64 ((n + j : Nat) : Int) ∧ ∃ lv5 v5 D3, Sep base wz (blkT B (.cells #[lv5, .slice (some ⟨g2, 0, none⟩) (n + s.held.length + j) cM4, fv, wv, .slice oH s.held.length cH, .slice oT s.held.length cT] 43 (0, 0)) :: rowT base 24 1 lv5 (n + s.held.length + j + 1) ((s.L ++ (P ++ Q)).map (fun x : Value × Int => x.1) ++ [v5]) :: (A.drop 1 ++ markT D3 (Ld ++ [(.slice ov xe.length cv, m), (v5, m)]) :: Y)) ∧ Chg (fun i => base ≤ i) wk wz)
              case first =>
                refine wp_region_noPanic ?_
                refine wp_region_held_drew (S := fun w' => w'.cell? ⟨B, 1, none⟩ = some (.slice (some ⟨g2, 0, none⟩) (n + s.held.length + j) cM4) ∧ w'.cell? ⟨g2, n + j, none⟩ = some (.int .u8 m)) (by kernel_rfl) (HCE.out _ _ _ _ (HS6b.out.frame (Chg.refl _ wk).drew)) (fun hHeld => ?_)
                refine wpAnyH_take (i := 0) (v := ?v1) rfl (by kernel_rfl) (by kernel_rfl) (by kernel_rfl) (fun _ _ _ h => h) (Or.inl ⟨by kernel_rfl, ?hy1⟩) hHeld ?rest1
                case hy1 =>
                  intro w hSw
                  try dsimp only at hSw
                  obtain ⟨hS1, hS2⟩ := hSw
                  go_simp
                  try with_reducible rfl
                simp only [List.getElem_toArray, List.getElem_cons_succ, List.getElem_cons_zero, Act.put, List.setIfInBounds_toArray, List.set_cons_zero, List.set_cons_succ]
                refine wpAnyH_take (i := 1) (v := ?v2) rfl (by kernel_rfl) (by kernel_rfl) (by kernel_rfl) (fun _ _ _ h => h) (Or.inl ⟨by kernel_rfl, ?hy2⟩) hHeld ?rest2
                case hy2 =>
                  intro w hSw
                  try dsimp only at hSw
                  obtain ⟨hS1, hS2⟩ := hSw
                  go_simp
                  try with_reducible rfl
                simp only [List.getElem_toArray, List.getElem_cons_succ, List.getElem_cons_zero, Act.put, List.setIfInBounds_toArray, List.set_cons_zero, List.set_cons_succ]
                refine wpAnyH_take (i := 2) (v := ?v3) rfl (by kernel_rfl) (by kernel_rfl) (by kernel_rfl) (fun _ _ _ h => h) (Or.inl ⟨by kernel_rfl, ?hy3⟩) hHeld ?rest3
                case hy3 =>
                  intro w hSw
                  try dsimp only at hSw
                  obtain ⟨hS1, hS2⟩ := hSw
                  go_simp
                  try with_reducible rfl
                simp only [List.getElem_toArray, List.getElem_cons_succ, List.getElem_cons_zero, Act.put, List.setIfInBounds_toArray, List.set_cons_zero, List.set_cons_succ]
                refine wpAnyH_take (i := 3) (v := ?v4) rfl (by kernel_rfl) (by kernel_rfl) (by kernel_rfl) (fun _ _ _ h => h) (Or.inl ⟨by kernel_rfl, ?hy4⟩) hHeld ?rest4
                case hy4 =>
                  intro w hSw
                  try dsimp only at hSw
                  obtain ⟨hS1, hS2⟩ := hSw
                  go_simp
                  try with_reducible rfl
                simp only [List.getElem_toArray, List.getElem_cons_succ, List.getElem_cons_zero, Act.put, List.setIfInBounds_toArray, List.set_cons_zero, List.set_cons_succ]
                refine wpAnyH_take (i := 5) (v := ?v5) rfl (by kernel_rfl) (by kernel_rfl) (by kernel_rfl) (fun _ _ _ h => h) (Or.inl ⟨by kernel_rfl, ?hy5⟩) hHeld ?rest5
                case hy5 =>
                  intro w hSw
                  try dsimp only at hSw
                  obtain ⟨hS1, hS2⟩ := hSw
                  go_simp
                  try with_reducible rfl
                simp only [List.getElem_toArray, List.getElem_cons_succ, List.getElem_cons_zero, Act.put, List.setIfInBounds_toArray, List.set_cons_zero, List.set_cons_succ]
                refine wpAnyH_take (i := 6) (v := ?v6) rfl (by kernel_rfl) (by kernel_rfl) (by kernel_rfl) (fun _ _ _ h => h) (Or.inl ⟨by kernel_rfl, ?hy6⟩) hHeld ?rest6
                case hy6 =>
                  intro w hSw
                  try dsimp only at hSw
                  obtain ⟨hS1, hS2⟩ := hSw
                  go_simp
                  try with_reducible rfl
                simp only [List.getElem_toArray, List.getElem_cons_succ, List.getElem_cons_zero, Act.put, List.setIfInBounds_toArray, List.set_cons_zero, List.set_cons_succ]
                refine wpAnyH_take (i := 7) (v := ?v7) rfl (by kernel_rfl) (by kernel_rfl) (by kernel_rfl) (fun _ _ _ h => h) (Or.inl ⟨by kernel_rfl, ?hy7⟩) hHeld ?rest7
                case hy7 =>
                  intro w hSw
                  try dsimp only at hSw
                  obtain ⟨hS1, hS2⟩ := hSw
                  go_simp
                  try with_reducible rfl
                simp only [List.getElem_toArray, List.getElem_cons_succ, List.getElem_cons_zero, Act.put, List.setIfInBounds_toArray, List.set_cons_zero, List.set_cons_succ]
                refine wpAnyH_take (i := 9) (v := ?v8) rfl (by kernel_rfl) (by kernel_rfl) (by kernel_rfl) (fun _ _ _ h => h) (Or.inl ⟨by kernel_rfl, ?hy8⟩) hHeld ?rest8
                case hy8 =>
                  intro w hSw
                  try dsimp only at hSw
                  obtain ⟨hS1, hS2⟩ := hSw
                  go_simp
                  try with_reducible rfl
                simp only [List.getElem_toArray, List.getElem_cons_succ, List.getElem_cons_zero, Act.put, List.setIfInBounds_toArray, List.set_cons_zero, List.set_cons_succ]
                refine wpAnyH_take (i := 12) (v := ?v9) rfl (by kernel_rfl) (by kernel_rfl) (by kernel_rfl) (fun _ _ _ h => h) (Or.inl ⟨by kernel_rfl, ?hy9⟩) hHeld ?rest9
                case hy9 =>
                  intro w hSw
                  try dsimp only at hSw
                  obtain ⟨hS1, hS2⟩ := hSw
                  go_simp
                  try with_reducible rfl
                simp only [List.getElem_toArray, List.getElem_cons_succ, List.getElem_cons_zero, Act.put, List.setIfInBounds_toArray, List.set_cons_zero, List.set_cons_succ]
                refine wpAnyH_take (i := 13) (v := ?v10) rfl (by kernel_rfl) (by kernel_rfl) (by kernel_rfl) (fun _ _ _ h => h) (Or.inl ⟨by kernel_rfl, ?hy10⟩) hHeld ?rest10
                case hy10 =>
                  intro w hSw
                  try dsimp only at hSw
                  obtain ⟨hS1, hS2⟩ := hSw
                  go_simp
                  try with_reducible rfl
                simp only [List.getElem_toArray, List.getElem_cons_succ, List.getElem_cons_zero, Act.put, List.setIfInBounds_toArray, List.set_cons_zero, List.set_cons_succ]
                refine wpAnyH_take (i := 14) (v := ?v11) rfl (by kernel_rfl) (by kernel_rfl) (by kernel_rfl) (fun _ _ _ h => h) (Or.inl ⟨by kernel_rfl, ?hy11⟩) hHeld ?rest11
                case hy11 =>
                  intro w hSw
                  try dsimp only at hSw
                  obtain ⟨hS1, hS2⟩ := hSw
                  go_simp
                  try with_reducible rfl
                simp only [List.getElem_toArray, List.getElem_cons_succ, List.getElem_cons_zero, Act.put, List.setIfInBounds_toArray, List.set_cons_zero, List.set_cons_succ]
                refine wpAnyH_take (i := 15) (v := ?v12) rfl (by kernel_rfl) (by kernel_rfl) (by kernel_rfl) (fun _ _ _ h => h) (Or.inl ⟨by kernel_rfl, ?hy12⟩) hHeld ?rest12
                case hy12 =>
                  intro w hSw
                  try dsimp only at hSw
                  obtain ⟨hS1, hS2⟩ := hSw
                  go_simp
                  try with_reducible rfl
                simp only [List.getElem_toArray, List.getElem_cons_succ, List.getElem_cons_zero, Act.put, List.setIfInBounds_toArray, List.set_cons_zero, List.set_cons_succ]
                refine wpAnyH_take (i := 16) (v := ?v13) rfl (by kernel_rfl) (by kernel_rfl) (by kernel_rfl) (fun _ _ _ h => h) (Or.inl ⟨by kernel_rfl, ?hy13⟩) hHeld ?rest13
                case hy13 =>
                  intro w hSw
                  try dsimp only at hSw
                  obtain ⟨hS1, hS2⟩ := hSw
                  go_simp
                  try with_reducible rfl
                simp only [List.getElem_toArray, List.getElem_cons_succ, List.getElem_cons_zero, Act.put, List.setIfInBounds_toArray, List.set_cons_zero, List.set_cons_succ]
                refine wpAnyH_take (i := 17) (v := ?v14) rfl (by kernel_rfl) (by kernel_rfl) (by kernel_rfl) (fun _ _ _ h => h) (Or.inl ⟨by kernel_rfl, ?hy14⟩) hHeld ?rest14
                case hy14 =>
                  intro w hSw
                  try dsimp only at hSw
                  obtain ⟨hS1, hS2⟩ := hSw
                  go_simp
                  try with_reducible rfl
                simp only [List.getElem_toArray, List.getElem_cons_succ, List.getElem_cons_zero, Act.put, List.setIfInBounds_toArray, List.set_cons_zero, List.set_cons_succ]
                refine wpAnyH_take (i := 18) (v := ?v15) rfl (by kernel_rfl) (by kernel_rfl) (by kernel_rfl) (fun _ _ _ h => h) (Or.inl ⟨by kernel_rfl, ?hy15⟩) hHeld ?rest15
                case hy15 =>
                  intro w hSw
                  try dsimp only at hSw
                  obtain ⟨hS1, hS2⟩ := hSw
                  go_simp
                  try with_reducible rfl
                simp only [List.getElem_toArray, List.getElem_cons_succ, List.getElem_cons_zero, Act.put, List.setIfInBounds_toArray, List.set_cons_zero, List.set_cons_succ]
                refine wpAnyH_ready (rs := [4, 8]) (by kernel_rfl) (by simp) ?_
                refine AllReadyH.cons rfl (fun K hK => ?_) (AllReadyH.cons rfl (fun K hK => ?_) (AllReadyH.nil))
                · go_simp
                  refine hK.out _ _ (hHeld) (fun hHeld => ?_)
                  clear hK K
                  try simp only [List.getElem_toArray, List.getElem_cons_succ, List.getElem_cons_zero, Act.put, List.setIfInBounds_toArray, List.set_cons_zero, List.set_cons_succ]
                  refine wpAnyH_ready (rs := [8]) (by kernel_rfl) (by simp) ?_
                  refine AllReadyH.cons rfl (fun K hK => ?_) (AllReadyH.nil)
                  go_simp
                  refine hK.out _ _ (hHeld) (fun hHeld => ?_)
                  clear hK K
                  try simp only [List.getElem_toArray, List.getElem_cons_succ, List.getElem_cons_zero, Act.put, List.setIfInBounds_toArray, List.set_cons_zero, List.set_cons_succ]
                  refine wpAnyH_take (i := 10) (v := ?v16) rfl (by kernel_rfl) (by kernel_rfl) (by kernel_rfl) (fun _ _ _ h => h) (Or.inl ⟨by kernel_rfl, ?hy16⟩) hHeld ?rest16
                  case hy16 =>
                    intro w hSw
                    try dsimp only at hSw
                    obtain ⟨hS1, hS2⟩ := hSw
                    go_simp
                    try with_reducible rfl
                  simp only [List.getElem_toArray, List.getElem_cons_succ, List.getElem_cons_zero, Act.put, List.setIfInBounds_toArray, List.set_cons_zero, List.set_cons_succ]
                  refine wpAnyH_ready (rs := [11]) (by kernel_rfl) (by simp) ?_
                  refine AllReadyH.cons rfl (fun K hK => ?_) (AllReadyH.nil)
                  go_simp
                  refine hK.out _ _ (hHeld) (fun hHeld => ?_)
                  clear hK K
                  try simp only [List.getElem_toArray, List.getElem_cons_succ, List.getElem_cons_zero, Act.put, List.setIfInBounds_toArray, List.set_cons_zero, List.set_cons_succ]
                  refine wpAnyH_ready (rs := [19]) (by kernel_rfl) (by simp) ?_
                  refine AllReadyH.cons rfl (fun K hK => ?_) (AllReadyH.nil)
                  go_simp
                  go_at_call 60
                  refine (HLG.out _ (by repeat (first | exact Chg.refl _ _ | apply Chg.drew | (refine Chg.setCell ?_ (by simp) _) | (refine Chg.alloc ?_ _) | (refine Chg.setBlock ?_ (by simp) _)))).mono ?_
                  rintro e2 w2 ⟨v5, rfl, hrow2, hb2, hpos2, hc2⟩
                  obtain ⟨D3, S7⟩ := mark_more (HS6.out.frame (show Chg (fun _ => False) wk _ by repeat (first | exact Chg.refl _ _ | apply Chg.drew | (refine Chg.setCell ?_ (by simp) _) | (refine Chg.alloc ?_ _) | (refine Chg.setBlock ?_ (by simp) _)))) (Nat.le_trans HBk.out (by simp)) HMB.out hrow2 hb2 hpos2 hc2
                  have S7' : Sep base w2 (blkT B (.cells #[.slice (some ⟨g1, 0, none⟩) (n + s.held.length + j) cL4, .slice (some ⟨g2, 0, none⟩) (n + s.held.length + j) cM4, fv, wv, .slice oH s.held.length cH, .slice oT s.held.length cT] 43 (0, 0)) :: rowT base 24 1 (.slice (some ⟨g1, 0, none⟩) (n + s.held.length + j) cL4) (n + s.held.length + j) ((s.L ++ (P ++ Q)).map fun x : Value × Int => x.1) :: (A.drop 1 ++ markT D3 (Ld ++ [(.slice ov xe.length cv, m), (v5, m)]) :: Y)) := by
                    have h := S7
                    rw [HA.out] at h ⊢
                    exact h
                  have y0' := cell_of_blk S7'.head 0
                  have yb' := blk_lt S7'.head
                  have HLR7 := Lib.hid (fun (wy : World) (hy : Chg (fun _ => False) w2 wy) => row_frame (S7'.at [_]) hy fun _ _ => id)
                  have HS7 := Lib.hid S7'
                  have HC7 := Lib.hid (Chg.trans (show Chg (fun i => base ≤ i) wk _ by repeat (first | exact Chg.refl _ _ | apply Chg.drew | (refine Chg.setCell ?_ (by simp) _) | (refine Chg.alloc ?_ _) | (refine Chg.setBlock ?_ (by simp) _))) (hc2.mono fun i _ h => HOV.out i h) fun _ _ h => h)
                  have HB7 := Lib.hid (Nat.le_trans HBk.out HC7.out.size)
                  obtain ⟨o5, k5, rfl, -⟩ := row_form hrow2
                  clear hrow2 hb2 hpos2 hc2 S7 S7'
                  refine hK.out _ _ (HCE.out _ _ _ _ HS7.out) (fun hHeld => ?_)
                  clear hK K
                  try simp only [List.getElem_toArray, List.getElem_cons_succ, List.getElem_cons_zero, Act.put, List.setIfInBounds_toArray, List.set_cons_zero, List.set_cons_succ]
                  refine wpAnyH_ready (rs := [20]) (by kernel_rfl) (by simp) ?_
                  refine AllReadyH.cons rfl (fun K hK => ?_) (AllReadyH.nil)
                  go_simp
                  refine hK.out _ _ (HCE.out _ _ _ _ (HS7.out.frame (show Chg (fun _ => False) w2 _ by repeat (first | exact Chg.refl _ _ | apply Chg.drew | (refine Chg.setCell ?_ (by simp) _) | (refine Chg.alloc ?_ _) | (refine Chg.setBlock ?_ (by simp) _))))) (fun hHeld => ?_)
                  clear hK K
                  try simp only [List.getElem_toArray, List.getElem_cons_succ, List.getElem_cons_zero, Act.put, List.setIfInBounds_toArray, List.set_cons_zero, List.set_cons_succ]
                  refine wpAnyH_ready (rs := [21]) (by kernel_rfl) (by simp) ?_
                  refine AllReadyH.cons rfl (fun K hK => ?_) (AllReadyH.nil)
                  refine step_app rfl _ _ _ (by rfl) base 24 i1 (.slice none 0 0) 1 24 Tryd.underlying22 ji jz0 jz1 jz2 rfl (by decide) _ (n + s.held.length + j) _ (by rfl) (HLR7.out _ (by repeat (first | exact Chg.refl _ _ | apply Chg.drew | (refine Chg.setCell ?_ (by simp) _) | (refine Chg.alloc ?_ _) | (refine Chg.setBlock ?_ (by simp) _)))) _ 1 1 [.slice o5 (xe.length + 97) k5] (by rfl) (SrcIs.some (by rfl) (by simp [Value.oneCell']) (by first | exact World.news_of_block (heap_alloc_new _ _) | exact World.news_of_block (w := World.drew _) (heap_alloc_new _ _))) (fun h => by cases h) (by have := HNB.out; unfold maxLen; omega) (by have := HNB.out; omega) (by have := HB7.out; simp; omega) ?_
                  intro v3 w3 hown hgrow hlie
                  have S8 := Sep.app2 [_] (HS7.out.frame (show Chg (fun _ => False) w2 _ by repeat (first | exact Chg.refl _ _ | apply Chg.drew | (refine Chg.setCell ?_ (by simp) _) | (refine Chg.alloc ?_ _) | (refine Chg.setBlock ?_ (by simp) _)))) (by have := HB7.out; simp; omega) hown hgrow hlie
                  have y0'' := cell_of_blk S8.1.head 0
                  have z0'' := frozen_of_blk S8.1.head 0
                  have HS8 := Lib.hid S8.1
                  have HC8 := Lib.hid (HC7.out.trans (Chg.trans (show Chg (fun i => base ≤ i) w2 _ by repeat (first | exact Chg.refl _ _ | apply Chg.drew | (refine Chg.setCell ?_ (by simp) _) | (refine Chg.alloc ?_ _) | (refine Chg.setBlock ?_ (by simp) _))) S8.2 fun _ _ h => h) fun _ _ h => h)
                  obtain ⟨o3, c3, rfl, -⟩ := row_form hown
                  clear hown hgrow hlie S8
                  refine hK.out _ _ (HCE.out _ _ _ _ HS8.out) (fun hHeld => ?_)
                  clear hK K
                  try simp only [List.getElem_toArray, List.getElem_cons_succ, List.getElem_cons_zero, Act.put, List.setIfInBounds_toArray, List.set_cons_zero, List.set_cons_succ]
                  refine wpAnyH_take (i := 22) (v := ?v17) rfl (by kernel_rfl) (by kernel_rfl) (by kernel_rfl) (fun _ _ _ h => h) (Or.inl ⟨by kernel_rfl, ?hy17⟩) hHeld ?rest17
                  case hy17 =>
                    intro w hSw
                    try dsimp only at hSw
                    obtain ⟨hS1, hS2⟩ := hSw
                    go_simp
                    try with_reducible rfl
                  simp only [List.getElem_toArray, List.getElem_cons_succ, List.getElem_cons_zero, Act.put, List.setIfInBounds_toArray, List.set_cons_zero, List.set_cons_succ]
                  refine wpAnyH_take (i := 23) (v := ?v18) rfl (by kernel_rfl) (by kernel_rfl) (by kernel_rfl) (fun _ _ _ h => h) (Or.inl ⟨by kernel_rfl, ?hy18⟩) hHeld ?rest18
                  case hy18 =>
                    intro w hSw
                    try dsimp only at hSw
                    obtain ⟨hS1, hS2⟩ := hSw
                    go_simp
                    try with_reducible rfl
                  simp only [List.getElem_toArray, List.getElem_cons_succ, List.getElem_cons_zero, Act.put, List.setIfInBounds_toArray, List.set_cons_zero, List.set_cons_succ]
                  refine wpAnyH_ready (rs := [24]) (by kernel_rfl) (by simp) ?_
                  refine AllReadyH.cons rfl (fun K hK => ?_) (AllReadyH.nil)
                  go_simp
                  refine hK.out _ _ (HCE.out _ _ _ _ (HS8.out.cell (i := 0) (x := .slice o3 (n + s.held.length + j + 1) c3) (Nat.le_trans HBk.out HC8.out.size) (cs' := #[.slice o3 (n + s.held.length + j + 1) c3, .slice (some ⟨g2, 0, none⟩) (n + s.held.length + j) cM4, fv, wv, .slice oH s.held.length cH, .slice oT s.held.length cT]) (by simp [objSet]))) (fun hHeld => ?_)
                  clear hK K
                  try simp only [List.getElem_toArray, List.getElem_cons_succ, List.getElem_cons_zero, Act.put, List.setIfInBounds_toArray, List.set_cons_zero, List.set_cons_succ]
                  refine wpAnyH_done (by kernel_rfl) ?_ _
                  refine NoPanic.normal ?_
                  go_wp2
                  go_meet
                  case rel => exact ⟨rfl, _, _, D3, HS8.out.cell (i := 0) (x := .slice o3 (n + s.held.length + j + 1) c3) (Nat.le_trans HBk.out HC8.out.size) (by simp [objSet]), HC8.out.setCell (p := ⟨B, 0, none⟩) (fun _ => HBB.out) _⟩
                · go_simp
                  refine hK.out _ _ (hHeld) (fun hHeld => ?_)
                  clear hK K
                  try simp only [List.getElem_toArray, List.getElem_cons_succ, List.getElem_cons_zero, Act.put, List.setIfInBounds_toArray, List.set_cons_zero, List.set_cons_succ]
                  refine wpAnyH_take (i := 10) (v := ?v27) rfl (by kernel_rfl) (by kernel_rfl) (by kernel_rfl) (fun _ _ _ h => h) (Or.inl ⟨by kernel_rfl, ?hy27⟩) hHeld ?rest27
                  case hy27 =>
                    intro w hSw
                    try dsimp only at hSw
                    obtain ⟨hS1, hS2⟩ := hSw
                    go_simp
                    try with_reducible rfl
                  simp only [List.getElem_toArray, List.getElem_cons_succ, List.getElem_cons_zero, Act.put, List.setIfInBounds_toArray, List.set_cons_zero, List.set_cons_succ]
                  refine wpAnyH_ready (rs := [4, 11]) (by kernel_rfl) (by simp) ?_
                  refine AllReadyH.cons rfl (fun K hK => ?_) (AllReadyH.cons rfl (fun K hK => ?_) (AllReadyH.nil))
                  · go_simp
                    refine hK.out _ _ (hHeld) (fun hHeld => ?_)
                    clear hK K
                    try simp only [List.getElem_toArray, List.getElem_cons_succ, List.getElem_cons_zero, Act.put, List.setIfInBounds_toArray, List.set_cons_zero, List.set_cons_succ]
                    refine wpAnyH_ready (rs := [11]) (by kernel_rfl) (by simp) ?_
                    refine AllReadyH.cons rfl (fun K hK => ?_) (AllReadyH.nil)
                    go_simp
                    refine hK.out _ _ (hHeld) (fun hHeld => ?_)
                    clear hK K
                    try simp only [List.getElem_toArray, List.getElem_cons_succ, List.getElem_cons_zero, Act.put, List.setIfInBounds_toArray, List.set_cons_zero, List.set_cons_succ]
                    refine wpAnyH_ready (rs := [19]) (by kernel_rfl) (by simp) ?_
                    refine AllReadyH.cons rfl (fun K hK => ?_) (AllReadyH.nil)
                    go_simp
                    go_at_call 60
                    refine (HLG.out _ (by repeat (first | exact Chg.refl _ _ | apply Chg.drew | (refine Chg.setCell ?_ (by simp) _) | (refine Chg.alloc ?_ _) | (refine Chg.setBlock ?_ (by simp) _)))).mono ?_
                    rintro e2 w2 ⟨v5, rfl, hrow2, hb2, hpos2, hc2⟩
                    obtain ⟨D3, S7⟩ := mark_more (HS6.out.frame (show Chg (fun _ => False) wk _ by repeat (first | exact Chg.refl _ _ | apply Chg.drew | (refine Chg.setCell ?_ (by simp) _) | (refine Chg.alloc ?_ _) | (refine Chg.setBlock ?_ (by simp) _)))) (Nat.le_trans HBk.out (by simp)) HMB.out hrow2 hb2 hpos2 hc2
                    have S7' : Sep base w2 (blkT B (.cells #[.slice (some ⟨g1, 0, none⟩) (n + s.held.length + j) cL4, .slice (some ⟨g2, 0, none⟩) (n + s.held.length + j) cM4, fv, wv, .slice oH s.held.length cH, .slice oT s.held.length cT] 43 (0, 0)) :: rowT base 24 1 (.slice (some ⟨g1, 0, none⟩) (n + s.held.length + j) cL4) (n + s.held.length + j) ((s.L ++ (P ++ Q)).map fun x : Value × Int => x.1) :: (A.drop 1 ++ markT D3 (Ld ++ [(.slice ov xe.length cv, m), (v5, m)]) :: Y)) := by
                      have h := S7
                      rw [HA.out] at h ⊢
                      exact h
                    have y0' := cell_of_blk S7'.head 0
                    have yb' := blk_lt S7'.head
                    have HLR7 := Lib.hid (fun (wy : World) (hy : Chg (fun _ => False) w2 wy) => row_frame (S7'.at [_]) hy fun _ _ => id)
                    have HS7 := Lib.hid S7'
                    have HC7 := Lib.hid (Chg.trans (show Chg (fun i => base ≤ i) wk _ by repeat (first | exact Chg.refl _ _ | apply Chg.drew | (refine Chg.setCell ?_ (by simp) _) | (refine Chg.alloc ?_ _) | (refine Chg.setBlock ?_ (by simp) _))) (hc2.mono fun i _ h => HOV.out i h) fun _ _ h => h)
                    have HB7 := Lib.hid (Nat.le_trans HBk.out HC7.out.size)
                    obtain ⟨o5, k5, rfl, -⟩ := row_form hrow2
                    clear hrow2 hb2 hpos2 hc2 S7 S7'
                    refine hK.out _ _ (HCE.out _ _ _ _ HS7.out) (fun hHeld => ?_)
                    clear hK K
                    try simp only [List.getElem_toArray, List.getElem_cons_succ, List.getElem_cons_zero, Act.put, List.setIfInBounds_toArray, List.set_cons_zero, List.set_cons_succ]
                    refine wpAnyH_ready (rs := [20]) (by kernel_rfl) (by simp) ?_
                    refine AllReadyH.cons rfl (fun K hK => ?_) (AllReadyH.nil)
                    go_simp
                    refine hK.out _ _ (HCE.out _ _ _ _ (HS7.out.frame (show Chg (fun _ => False) w2 _ by repeat (first | exact Chg.refl _ _ | apply Chg.drew | (refine Chg.setCell ?_ (by simp) _) | (refine Chg.alloc ?_ _) | (refine Chg.setBlock ?_ (by simp) _))))) (fun hHeld => ?_)
                    clear hK K
                    try simp only [List.getElem_toArray, List.getElem_cons_succ, List.getElem_cons_zero, Act.put, List.setIfInBounds_toArray, List.set_cons_zero, List.set_cons_succ]
                    refine wpAnyH_ready (rs := [21]) (by kernel_rfl) (by simp) ?_
                    refine AllReadyH.cons rfl (fun K hK => ?_) (AllReadyH.nil)
                    refine step_app rfl _ _ _ (by rfl) base 24 i1 (.slice none 0 0) 1 24 Tryd.underlying22 ji jz0 jz1 jz2 rfl (by decide) _ (n + s.held.length + j) _ (by rfl) (HLR7.out _ (by repeat (first | exact Chg.refl _ _ | apply Chg.drew | (refine Chg.setCell ?_ (by simp) _) | (refine Chg.alloc ?_ _) | (refine Chg.setBlock ?_ (by simp) _)))) _ 1 1 [.slice o5 (xe.length + 97) k5] (by rfl) (SrcIs.some (by rfl) (by simp [Value.oneCell']) (by first | exact World.news_of_block (heap_alloc_new _ _) | exact World.news_of_block (w := World.drew _) (heap_alloc_new _ _))) (fun h => by cases h) (by have := HNB.out; unfold maxLen; omega) (by have := HNB.out; omega) (by have := HB7.out; simp; omega) ?_
                    intro v3 w3 hown hgrow hlie
                    have S8 := Sep.app2 [_] (HS7.out.frame (show Chg (fun _ => False) w2 _ by repeat (first | exact Chg.refl _ _ | apply Chg.drew | (refine Chg.setCell ?_ (by simp) _) | (refine Chg.alloc ?_ _) | (refine Chg.setBlock ?_ (by simp) _)))) (by have := HB7.out; simp; omega) hown hgrow hlie
                    have y0'' := cell_of_blk S8.1.head 0
                    have z0'' := frozen_of_blk S8.1.head 0
                    have HS8 := Lib.hid S8.1
                    have HC8 := Lib.hid (HC7.out.trans (Chg.trans (show Chg (fun i => base ≤ i) w2 _ by repeat (first | exact Chg.refl _ _ | apply Chg.drew | (refine Chg.setCell ?_ (by simp) _) | (refine Chg.alloc ?_ _) | (refine Chg.setBlock ?_ (by simp) _))) S8.2 fun _ _ h => h) fun _ _ h => h)
                    obtain ⟨o3, c3, rfl, -⟩ := row_form hown
                    clear hown hgrow hlie S8
                    refine hK.out _ _ (HCE.out _ _ _ _ HS8.out) (fun hHeld => ?_)
                    clear hK K
                    try simp only [List.getElem_toArray, List.getElem_cons_succ, List.getElem_cons_zero, Act.put, List.setIfInBounds_toArray, List.set_cons_zero, List.set_cons_succ]
                    refine wpAnyH_take (i := 22) (v := ?v19) rfl (by kernel_rfl) (by kernel_rfl) (by kernel_rfl) (fun _ _ _ h => h) (Or.inl ⟨by kernel_rfl, ?hy19⟩) hHeld ?rest19
                    case hy19 =>
                      intro w hSw
                      try dsimp only at hSw
                      obtain ⟨hS1, hS2⟩ := hSw
                      go_simp
                      try with_reducible rfl
                    simp only [List.getElem_toArray, List.getElem_cons_succ, List.getElem_cons_zero, Act.put, List.setIfInBounds_toArray, List.set_cons_zero, List.set_cons_succ]
                    refine wpAnyH_take (i := 23) (v := ?v20) rfl (by kernel_rfl) (by kernel_rfl) (by kernel_rfl) (fun _ _ _ h => h) (Or.inl ⟨by kernel_rfl, ?hy20⟩) hHeld ?rest20
                    case hy20 =>
                      intro w hSw
                      try dsimp only at hSw
                      obtain ⟨hS1, hS2⟩ := hSw
                      go_simp
                      try with_reducible rfl
                    simp only [List.getElem_toArray, List.getElem_cons_succ, List.getElem_cons_zero, Act.put, List.setIfInBounds_toArray, List.set_cons_zero, List.set_cons_succ]
                    refine wpAnyH_ready (rs := [24]) (by kernel_rfl) (by simp) ?_
                    refine AllReadyH.cons rfl (fun K hK => ?_) (AllReadyH.nil)
                    go_simp
                    refine hK.out _ _ (HCE.out _ _ _ _ (HS8.out.cell (i := 0) (x := .slice o3 (n + s.held.length + j + 1) c3) (Nat.le_trans HBk.out HC8.out.size) (cs' := #[.slice o3 (n + s.held.length + j + 1) c3, .slice (some ⟨g2, 0, none⟩) (n + s.held.length + j) cM4, fv, wv, .slice oH s.held.length cH, .slice oT s.held.length cT]) (by simp [objSet]))) (fun hHeld => ?_)
                    clear hK K
                    try simp only [List.getElem_toArray, List.getElem_cons_succ, List.getElem_cons_zero, Act.put, List.setIfInBounds_toArray, List.set_cons_zero, List.set_cons_succ]
                    refine wpAnyH_done (by kernel_rfl) ?_ _
                    refine NoPanic.normal ?_
                    go_wp2
                    go_meet
                    case rel => exact ⟨rfl, _, _, D3, HS8.out.cell (i := 0) (x := .slice o3 (n + s.held.length + j + 1) c3) (Nat.le_trans HBk.out HC8.out.size) (by simp [objSet]), HC8.out.setCell (p := ⟨B, 0, none⟩) (fun _ => HBB.out) _⟩
                  · go_simp
                    refine hK.out _ _ (hHeld) (fun hHeld => ?_)
                    clear hK K
                    try simp only [List.getElem_toArray, List.getElem_cons_succ, List.getElem_cons_zero, Act.put, List.setIfInBounds_toArray, List.set_cons_zero, List.set_cons_succ]
                    refine wpAnyH_ready (rs := [4, 19]) (by kernel_rfl) (by simp) ?_
                    refine AllReadyH.cons rfl (fun K hK => ?_) (AllReadyH.cons rfl (fun K hK => ?_) (AllReadyH.nil))
                    · go_simp
                      refine hK.out _ _ (hHeld) (fun hHeld => ?_)
                      clear hK K
                      try simp only [List.getElem_toArray, List.getElem_cons_succ, List.getElem_cons_zero, Act.put, List.setIfInBounds_toArray, List.set_cons_zero, List.set_cons_succ]
                      refine wpAnyH_ready (rs := [19]) (by kernel_rfl) (by simp) ?_
                      refine AllReadyH.cons rfl (fun K hK => ?_) (AllReadyH.nil)
                      go_simp
                      go_at_call 60
                      refine (HLG.out _ (by repeat (first | exact Chg.refl _ _ | apply Chg.drew | (refine Chg.setCell ?_ (by simp) _) | (refine Chg.alloc ?_ _) | (refine Chg.setBlock ?_ (by simp) _)))).mono ?_
                      rintro e2 w2 ⟨v5, rfl, hrow2, hb2, hpos2, hc2⟩
                      obtain ⟨D3, S7⟩ := mark_more (HS6.out.frame (show Chg (fun _ => False) wk _ by repeat (first | exact Chg.refl _ _ | apply Chg.drew | (refine Chg.setCell ?_ (by simp) _) | (refine Chg.alloc ?_ _) | (refine Chg.setBlock ?_ (by simp) _)))) (Nat.le_trans HBk.out (by simp)) HMB.out hrow2 hb2 hpos2 hc2
                      have S7' : Sep base w2 (blkT B (.cells #[.slice (some ⟨g1, 0, none⟩) (n + s.held.length + j) cL4, .slice (some ⟨g2, 0, none⟩) (n + s.held.length + j) cM4, fv, wv, .slice oH s.held.length cH, .slice oT s.held.length cT] 43 (0, 0)) :: rowT base 24 1 (.slice (some ⟨g1, 0, none⟩) (n + s.held.length + j) cL4) (n + s.held.length + j) ((s.L ++ (P ++ Q)).map fun x : Value × Int => x.1) :: (A.drop 1 ++ markT D3 (Ld ++ [(.slice ov xe.length cv, m), (v5, m)]) :: Y)) := by
                        have h := S7
                        rw [HA.out] at h ⊢
                        exact h
                      have y0' := cell_of_blk S7'.head 0
                      have yb' := blk_lt S7'.head
                      have HLR7 := Lib.hid (fun (wy : World) (hy : Chg (fun _ => False) w2 wy) => row_frame (S7'.at [_]) hy fun _ _ => id)
                      have HS7 := Lib.hid S7'
                      have HC7 := Lib.hid (Chg.trans (show Chg (fun i => base ≤ i) wk _ by repeat (first | exact Chg.refl _ _ | apply Chg.drew | (refine Chg.setCell ?_ (by simp) _) | (refine Chg.alloc ?_ _) | (refine Chg.setBlock ?_ (by simp) _))) (hc2.mono fun i _ h => HOV.out i h) fun _ _ h => h)
                      have HB7 := Lib.hid (Nat.le_trans HBk.out HC7.out.size)
                      obtain ⟨o5, k5, rfl, -⟩ := row_form hrow2
                      clear hrow2 hb2 hpos2 hc2 S7 S7'
                      refine hK.out _ _ (HCE.out _ _ _ _ HS7.out) (fun hHeld => ?_)
                      clear hK K
                      try simp only [List.getElem_toArray, List.getElem_cons_succ, List.getElem_cons_zero, Act.put, List.setIfInBounds_toArray, List.set_cons_zero, List.set_cons_succ]
                      refine wpAnyH_ready (rs := [20]) (by kernel_rfl) (by simp) ?_
                      refine AllReadyH.cons rfl (fun K hK => ?_) (AllReadyH.nil)
                      go_simp
                      refine hK.out _ _ (HCE.out _ _ _ _ (HS7.out.frame (show Chg (fun _ => False) w2 _ by repeat (first | exact Chg.refl _ _ | apply Chg.drew | (refine Chg.setCell ?_ (by simp) _) | (refine Chg.alloc ?_ _) | (refine Chg.setBlock ?_ (by simp) _))))) (fun hHeld => ?_)
                      clear hK K
                      try simp only [List.getElem_toArray, List.getElem_cons_succ, List.getElem_cons_zero, Act.put, List.setIfInBounds_toArray, List.set_cons_zero, List.set_cons_succ]
                      refine wpAnyH_ready (rs := [21]) (by kernel_rfl) (by simp) ?_
                      refine AllReadyH.cons rfl (fun K hK => ?_) (AllReadyH.nil)
                      refine step_app rfl _ _ _ (by rfl) base 24 i1 (.slice none 0 0) 1 24 Tryd.underlying22 ji jz0 jz1 jz2 rfl (by decide) _ (n + s.held.length + j) _ (by rfl) (HLR7.out _ (by repeat (first | exact Chg.refl _ _ | apply Chg.drew | (refine Chg.setCell ?_ (by simp) _) | (refine Chg.alloc ?_ _) | (refine Chg.setBlock ?_ (by simp) _)))) _ 1 1 [.slice o5 (xe.length + 97) k5] (by rfl) (SrcIs.some (by rfl) (by simp [Value.oneCell']) (by first | exact World.news_of_block (heap_alloc_new _ _) | exact World.news_of_block (w := World.drew _) (heap_alloc_new _ _))) (fun h => by cases h) (by have := HNB.out; unfold maxLen; omega) (by have := HNB.out; omega) (by have := HB7.out; simp; omega) ?_
                      intro v3 w3 hown hgrow hlie
                      have S8 := Sep.app2 [_] (HS7.out.frame (show Chg (fun _ => False) w2 _ by repeat (first | exact Chg.refl _ _ | apply Chg.drew | (refine Chg.setCell ?_ (by simp) _) | (refine Chg.alloc ?_ _) | (refine Chg.setBlock ?_ (by simp) _)))) (by have := HB7.out; simp; omega) hown hgrow hlie
                      have y0'' := cell_of_blk S8.1.head 0
                      have z0'' := frozen_of_blk S8.1.head 0
                      have HS8 := Lib.hid S8.1
                      have HC8 := Lib.hid (HC7.out.trans (Chg.trans (show Chg (fun i => base ≤ i) w2 _ by repeat (first | exact Chg.refl _ _ | apply Chg.drew | (refine Chg.setCell ?_ (by simp) _) | (refine Chg.alloc ?_ _) | (refine Chg.setBlock ?_ (by simp) _))) S8.2 fun _ _ h => h) fun _ _ h => h)
                      obtain ⟨o3, c3, rfl, -⟩ := row_form hown
                      clear hown hgrow hlie S8
                      refine hK.out _ _ (HCE.out _ _ _ _ HS8.out) (fun hHeld => ?_)
                      clear hK K
                      try simp only [List.getElem_toArray, List.getElem_cons_succ, List.getElem_cons_zero, Act.put, List.setIfInBounds_toArray, List.set_cons_zero, List.set_cons_succ]
                      refine wpAnyH_take (i := 22) (v := ?v21) rfl (by kernel_rfl) (by kernel_rfl) (by kernel_rfl) (fun _ _ _ h => h) (Or.inl ⟨by kernel_rfl, ?hy21⟩) hHeld ?rest21
                      case hy21 =>
                        intro w hSw
                        try dsimp only at hSw
                        obtain ⟨hS1, hS2⟩ := hSw
                        go_simp
                        try with_reducible rfl
                      simp only [List.getElem_toArray, List.getElem_cons_succ, List.getElem_cons_zero, Act.put, List.setIfInBounds_toArray, List.set_cons_zero, List.set_cons_succ]
                      refine wpAnyH_take (i := 23) (v := ?v22) rfl (by kernel_rfl) (by kernel_rfl) (by kernel_rfl) (fun _ _ _ h => h) (Or.inl ⟨by kernel_rfl, ?hy22⟩) hHeld ?rest22
                      case hy22 =>
                        intro w hSw
                        try dsimp only at hSw
                        obtain ⟨hS1, hS2⟩ := hSw
                        go_simp
                        try with_reducible rfl
                      simp only [List.getElem_toArray, List.getElem_cons_succ, List.getElem_cons_zero, Act.put, List.setIfInBounds_toArray, List.set_cons_zero, List.set_cons_succ]
                      refine wpAnyH_ready (rs := [24]) (by kernel_rfl) (by simp) ?_
                      refine AllReadyH.cons rfl (fun K hK => ?_) (AllReadyH.nil)
                      go_simp
                      refine hK.out _ _ (HCE.out _ _ _ _ (HS8.out.cell (i := 0) (x := .slice o3 (n + s.held.length + j + 1) c3) (Nat.le_trans HBk.out HC8.out.size) (cs' := #[.slice o3 (n + s.held.length + j + 1) c3, .slice (some ⟨g2, 0, none⟩) (n + s.held.length + j) cM4, fv, wv, .slice oH s.held.length cH, .slice oT s.held.length cT]) (by simp [objSet]))) (fun hHeld => ?_)
                      clear hK K
                      try simp only [List.getElem_toArray, List.getElem_cons_succ, List.getElem_cons_zero, Act.put, List.setIfInBounds_toArray, List.set_cons_zero, List.set_cons_succ]
                      refine wpAnyH_done (by kernel_rfl) ?_ _
                      refine NoPanic.normal ?_
                      go_wp2
                      go_meet
                      case rel => exact ⟨rfl, _, _, D3, HS8.out.cell (i := 0) (x := .slice o3 (n + s.held.length + j + 1) c3) (Nat.le_trans HBk.out HC8.out.size) (by simp [objSet]), HC8.out.setCell (p := ⟨B, 0, none⟩) (fun _ => HBB.out) _⟩
                    · go_simp
                      go_at_call 60
                      refine (HLG.out _ (by repeat (first | exact Chg.refl _ _ | apply Chg.drew | (refine Chg.setCell ?_ (by simp) _) | (refine Chg.alloc ?_ _) | (refine Chg.setBlock ?_ (by simp) _)))).mono ?_
                      rintro e2 w2 ⟨v5, rfl, hrow2, hb2, hpos2, hc2⟩
                      obtain ⟨D3, S7⟩ := mark_more (HS6.out.frame (show Chg (fun _ => False) wk _ by repeat (first | exact Chg.refl _ _ | apply Chg.drew | (refine Chg.setCell ?_ (by simp) _) | (refine Chg.alloc ?_ _) | (refine Chg.setBlock ?_ (by simp) _)))) (Nat.le_trans HBk.out (by simp)) HMB.out hrow2 hb2 hpos2 hc2
                      have S7' : Sep base w2 (blkT B (.cells #[.slice (some ⟨g1, 0, none⟩) (n + s.held.length + j) cL4, .slice (some ⟨g2, 0, none⟩) (n + s.held.length + j) cM4, fv, wv, .slice oH s.held.length cH, .slice oT s.held.length cT] 43 (0, 0)) :: rowT base 24 1 (.slice (some ⟨g1, 0, none⟩) (n + s.held.length + j) cL4) (n + s.held.length + j) ((s.L ++ (P ++ Q)).map fun x : Value × Int => x.1) :: (A.drop 1 ++ markT D3 (Ld ++ [(.slice ov xe.length cv, m), (v5, m)]) :: Y)) := by
                        have h := S7
                        rw [HA.out] at h ⊢
                        exact h
                      have y0' := cell_of_blk S7'.head 0
                      have yb' := blk_lt S7'.head
                      have HLR7 := Lib.hid (fun (wy : World) (hy : Chg (fun _ => False) w2 wy) => row_frame (S7'.at [_]) hy fun _ _ => id)
                      have HS7 := Lib.hid S7'
                      have HC7 := Lib.hid (Chg.trans (show Chg (fun i => base ≤ i) wk _ by repeat (first | exact Chg.refl _ _ | apply Chg.drew | (refine Chg.setCell ?_ (by simp) _) | (refine Chg.alloc ?_ _) | (refine Chg.setBlock ?_ (by simp) _))) (hc2.mono fun i _ h => HOV.out i h) fun _ _ h => h)
                      have HB7 := Lib.hid (Nat.le_trans HBk.out HC7.out.size)
                      obtain ⟨o5, k5, rfl, -⟩ := row_form hrow2
                      clear hrow2 hb2 hpos2 hc2 S7 S7'
                      refine hK.out _ _ (HCE.out _ _ _ _ HS7.out) (fun hHeld => ?_)
                      clear hK K
                      try simp only [List.getElem_toArray, List.getElem_cons_succ, List.getElem_cons_zero, Act.put, List.setIfInBounds_toArray, List.set_cons_zero, List.set_cons_succ]
                      refine wpAnyH_ready (rs := [4, 20]) (by kernel_rfl) (by simp) ?_
                      refine AllReadyH.cons rfl (fun K hK => ?_) (AllReadyH.cons rfl (fun K hK => ?_) (AllReadyH.nil))
                      · go_simp
                        refine hK.out _ _ (HCE.out _ _ _ _ HS7.out) (fun hHeld => ?_)
                        clear hK K
                        try simp only [List.getElem_toArray, List.getElem_cons_succ, List.getElem_cons_zero, Act.put, List.setIfInBounds_toArray, List.set_cons_zero, List.set_cons_succ]
                        refine wpAnyH_ready (rs := [20]) (by kernel_rfl) (by simp) ?_
                        refine AllReadyH.cons rfl (fun K hK => ?_) (AllReadyH.nil)
                        go_simp
                        refine hK.out _ _ (HCE.out _ _ _ _ (HS7.out.frame (show Chg (fun _ => False) w2 _ by repeat (first | exact Chg.refl _ _ | apply Chg.drew | (refine Chg.setCell ?_ (by simp) _) | (refine Chg.alloc ?_ _) | (refine Chg.setBlock ?_ (by simp) _))))) (fun hHeld => ?_)
                        clear hK K
                        try simp only [List.getElem_toArray, List.getElem_cons_succ, List.getElem_cons_zero, Act.put, List.setIfInBounds_toArray, List.set_cons_zero, List.set_cons_succ]
                        refine wpAnyH_ready (rs := [21]) (by kernel_rfl) (by simp) ?_
                        refine AllReadyH.cons rfl (fun K hK => ?_) (AllReadyH.nil)
                        refine step_app rfl _ _ _ (by rfl) base 24 i1 (.slice none 0 0) 1 24 Tryd.underlying22 ji jz0 jz1 jz2 rfl (by decide) _ (n + s.held.length + j) _ (by rfl) (HLR7.out _ (by repeat (first | exact Chg.refl _ _ | apply Chg.drew | (refine Chg.setCell ?_ (by simp) _) | (refine Chg.alloc ?_ _) | (refine Chg.setBlock ?_ (by simp) _)))) _ 1 1 [.slice o5 (xe.length + 97) k5] (by rfl) (SrcIs.some (by rfl) (by simp [Value.oneCell']) (by first | exact World.news_of_block (heap_alloc_new _ _) | exact World.news_of_block (w := World.drew _) (heap_alloc_new _ _))) (fun h => by cases h) (by have := HNB.out; unfold maxLen; omega) (by have := HNB.out; omega) (by have := HB7.out; simp; omega) ?_
                        intro v3 w3 hown hgrow hlie
                        have S8 := Sep.app2 [_] (HS7.out.frame (show Chg (fun _ => False) w2 _ by repeat (first | exact Chg.refl _ _ | apply Chg.drew | (refine Chg.setCell ?_ (by simp) _) | (refine Chg.alloc ?_ _) | (refine Chg.setBlock ?_ (by simp) _)))) (by have := HB7.out; simp; omega) hown hgrow hlie
                        have y0'' := cell_of_blk S8.1.head 0
                        have z0'' := frozen_of_blk S8.1.head 0
                        have HS8 := Lib.hid S8.1
                        have HC8 := Lib.hid (HC7.out.trans (Chg.trans (show Chg (fun i => base ≤ i) w2 _ by repeat (first | exact Chg.refl _ _ | apply Chg.drew | (refine Chg.setCell ?_ (by simp) _) | (refine Chg.alloc ?_ _) | (refine Chg.setBlock ?_ (by simp) _))) S8.2 fun _ _ h => h) fun _ _ h => h)
                        obtain ⟨o3, c3, rfl, -⟩ := row_form hown
                        clear hown hgrow hlie S8
                        refine hK.out _ _ (HCE.out _ _ _ _ HS8.out) (fun hHeld => ?_)
                        clear hK K
                        try simp only [List.getElem_toArray, List.getElem_cons_succ, List.getElem_cons_zero, Act.put, List.setIfInBounds_toArray, List.set_cons_zero, List.set_cons_succ]
                        refine wpAnyH_take (i := 22) (v := ?v23) rfl (by kernel_rfl) (by kernel_rfl) (by kernel_rfl) (fun _ _ _ h => h) (Or.inl ⟨by kernel_rfl, ?hy23⟩) hHeld ?rest23
                        case hy23 =>
                          intro w hSw
                          try dsimp only at hSw
                          obtain ⟨hS1, hS2⟩ := hSw
                          go_simp
                          try with_reducible rfl
                        simp only [List.getElem_toArray, List.getElem_cons_succ, List.getElem_cons_zero, Act.put, List.setIfInBounds_toArray, List.set_cons_zero, List.set_cons_succ]
                        refine wpAnyH_take (i := 23) (v := ?v24) rfl (by kernel_rfl) (by kernel_rfl) (by kernel_rfl) (fun _ _ _ h => h) (Or.inl ⟨by kernel_rfl, ?hy24⟩) hHeld ?rest24
                        case hy24 =>
                          intro w hSw
                          try dsimp only at hSw
                          obtain ⟨hS1, hS2⟩ := hSw
                          go_simp
                          try with_reducible rfl
                        simp only [List.getElem_toArray, List.getElem_cons_succ, List.getElem_cons_zero, Act.put, List.setIfInBounds_toArray, List.set_cons_zero, List.set_cons_succ]
                        refine wpAnyH_ready (rs := [24]) (by kernel_rfl) (by simp) ?_
                        refine AllReadyH.cons rfl (fun K hK => ?_) (AllReadyH.nil)
                        go_simp
                        refine hK.out _ _ (HCE.out _ _ _ _ (HS8.out.cell (i := 0) (x := .slice o3 (n + s.held.length + j + 1) c3) (Nat.le_trans HBk.out HC8.out.size) (cs' := #[.slice o3 (n + s.held.length + j + 1) c3, .slice (some ⟨g2, 0, none⟩) (n + s.held.length + j) cM4, fv, wv, .slice oH s.held.length cH, .slice oT s.held.length cT]) (by simp [objSet]))) (fun hHeld => ?_)
                        clear hK K
                        try simp only [List.getElem_toArray, List.getElem_cons_succ, List.getElem_cons_zero, Act.put, List.setIfInBounds_toArray, List.set_cons_zero, List.set_cons_succ]
                        refine wpAnyH_done (by kernel_rfl) ?_ _
                        refine NoPanic.normal ?_
                        go_wp2
                        go_meet
                        case rel => exact ⟨rfl, _, _, D3, HS8.out.cell (i := 0) (x := .slice o3 (n + s.held.length + j + 1) c3) (Nat.le_trans HBk.out HC8.out.size) (by simp [objSet]), HC8.out.setCell (p := ⟨B, 0, none⟩) (fun _ => HBB.out) _⟩
                      · go_simp
                        refine hK.out _ _ (HCE.out _ _ _ _ (HS7.out.frame (show Chg (fun _ => False) w2 _ by repeat (first | exact Chg.refl _ _ | apply Chg.drew | (refine Chg.setCell ?_ (by simp) _) | (refine Chg.alloc ?_ _) | (refine Chg.setBlock ?_ (by simp) _))))) (fun hHeld => ?_)
                        clear hK K
                        try simp only [List.getElem_toArray, List.getElem_cons_succ, List.getElem_cons_zero, Act.put, List.setIfInBounds_toArray, List.set_cons_zero, List.set_cons_succ]
                        refine wpAnyH_ready (rs := [4]) (by kernel_rfl) (by simp) ?_
                        refine AllReadyH.cons rfl (fun K hK => ?_) (AllReadyH.nil)
                        go_simp
                        refine hK.out _ _ (HCE.out _ _ _ _ (HS7.out.frame (show Chg (fun _ => False) w2 _ by repeat (first | exact Chg.refl _ _ | apply Chg.drew | (refine Chg.setCell ?_ (by simp) _) | (refine Chg.alloc ?_ _) | (refine Chg.setBlock ?_ (by simp) _))))) (fun hHeld => ?_)
                        clear hK K
                        try simp only [List.getElem_toArray, List.getElem_cons_succ, List.getElem_cons_zero, Act.put, List.setIfInBounds_toArray, List.set_cons_zero, List.set_cons_succ]
                        refine wpAnyH_ready (rs := [21]) (by kernel_rfl) (by simp) ?_
                        refine AllReadyH.cons rfl (fun K hK => ?_) (AllReadyH.nil)
                        refine step_app rfl _ _ _ (by rfl) base 24 i1 (.slice none 0 0) 1 24 Tryd.underlying22 ji jz0 jz1 jz2 rfl (by decide) _ (n + s.held.length + j) _ (by rfl) (HLR7.out _ (by repeat (first | exact Chg.refl _ _ | apply Chg.drew | (refine Chg.setCell ?_ (by simp) _) | (refine Chg.alloc ?_ _) | (refine Chg.setBlock ?_ (by simp) _)))) _ 1 1 [.slice o5 (xe.length + 97) k5] (by rfl) (SrcIs.some (by rfl) (by simp [Value.oneCell']) (by first | exact World.news_of_block (heap_alloc_new _ _) | exact World.news_of_block (w := World.drew _) (heap_alloc_new _ _))) (fun h => by cases h) (by have := HNB.out; unfold maxLen; omega) (by have := HNB.out; omega) (by have := HB7.out; simp; omega) ?_
                        intro v3 w3 hown hgrow hlie
                        have S8 := Sep.app2 [_] (HS7.out.frame (show Chg (fun _ => False) w2 _ by repeat (first | exact Chg.refl _ _ | apply Chg.drew | (refine Chg.setCell ?_ (by simp) _) | (refine Chg.alloc ?_ _) | (refine Chg.setBlock ?_ (by simp) _)))) (by have := HB7.out; simp; omega) hown hgrow hlie
                        have y0'' := cell_of_blk S8.1.head 0
                        have z0'' := frozen_of_blk S8.1.head 0
                        have HS8 := Lib.hid S8.1
                        have HC8 := Lib.hid (HC7.out.trans (Chg.trans (show Chg (fun i => base ≤ i) w2 _ by repeat (first | exact Chg.refl _ _ | apply Chg.drew | (refine Chg.setCell ?_ (by simp) _) | (refine Chg.alloc ?_ _) | (refine Chg.setBlock ?_ (by simp) _))) S8.2 fun _ _ h => h) fun _ _ h => h)
                        obtain ⟨o3, c3, rfl, -⟩ := row_form hown
                        clear hown hgrow hlie S8
                        refine hK.out _ _ (HCE.out _ _ _ _ HS8.out) (fun hHeld => ?_)
                        clear hK K
                        try simp only [List.getElem_toArray, List.getElem_cons_succ, List.getElem_cons_zero, Act.put, List.setIfInBounds_toArray, List.set_cons_zero, List.set_cons_succ]
                        refine wpAnyH_take (i := 22) (v := ?v25) rfl (by kernel_rfl) (by kernel_rfl) (by kernel_rfl) (fun _ _ _ h => h) (Or.inl ⟨by kernel_rfl, ?hy25⟩) hHeld ?rest25
                        case hy25 =>
                          intro w hSw
                          try dsimp only at hSw
                          obtain ⟨hS1, hS2⟩ := hSw
                          go_simp
                          try with_reducible rfl
                        simp only [List.getElem_toArray, List.getElem_cons_succ, List.getElem_cons_zero, Act.put, List.setIfInBounds_toArray, List.set_cons_zero, List.set_cons_succ]
                        refine wpAnyH_take (i := 23) (v := ?v26) rfl (by kernel_rfl) (by kernel_rfl) (by kernel_rfl) (fun _ _ _ h => h) (Or.inl ⟨by kernel_rfl, ?hy26⟩) hHeld ?rest26
                        case hy26 =>
                          intro w hSw
                          try dsimp only at hSw
                          obtain ⟨hS1, hS2⟩ := hSw
                          go_simp
                          try with_reducible rfl
                        simp only [List.getElem_toArray, List.getElem_cons_succ, List.getElem_cons_zero, Act.put, List.setIfInBounds_toArray, List.set_cons_zero, List.set_cons_succ]
                        refine wpAnyH_ready (rs := [24]) (by kernel_rfl) (by simp) ?_
                        refine AllReadyH.cons rfl (fun K hK => ?_) (AllReadyH.nil)
                        go_simp
                        refine hK.out _ _ (HCE.out _ _ _ _ (HS8.out.cell (i := 0) (x := .slice o3 (n + s.held.length + j + 1) c3) (Nat.le_trans HBk.out HC8.out.size) (cs' := #[.slice o3 (n + s.held.length + j + 1) c3, .slice (some ⟨g2, 0, none⟩) (n + s.held.length + j) cM4, fv, wv, .slice oH s.held.length cH, .slice oT s.held.length cT]) (by simp [objSet]))) (fun hHeld => ?_)
                        clear hK K
                        try simp only [List.getElem_toArray, List.getElem_cons_succ, List.getElem_cons_zero, Act.put, List.setIfInBounds_toArray, List.set_cons_zero, List.set_cons_succ]
                        refine wpAnyH_done (by kernel_rfl) ?_ _
                        refine NoPanic.normal ?_
                        go_wp2
                        go_meet
                        case rel => exact ⟨rfl, _, _, D3, HS8.out.cell (i := 0) (x := .slice o3 (n + s.held.length + j + 1) c3) (Nat.le_trans HBk.out HC8.out.size) (by simp [objSet]), HC8.out.setCell (p := ⟨B, 0, none⟩) (fun _ => HBB.out) _⟩
              case rest =>
                obtain ⟨rfl, lv5, v5, D3, S9, hc9⟩ := hcut
                have HPJ := Lib.hid (show P[j]? = some (.slice ov xe.length cv, m) from by rw [HP.out, HM.out]; exact pz_at _ _ _ _ HE.out)
                have hce := HCE.out _ _ _ _ S9
                have c2 := hce.2
                have y1 := hce.1
                have yb9 := blk_lt S9.head
                have HC9 := Lib.hid hc9
                have HB9 := Lib.hid (Nat.le_trans HBk.out hc9.size)
                rw [HA.out] at S9
                simp only [List.drop_succ_cons, List.drop_zero, List.cons_append, List.nil_append] at S9
                have HS9 := Lib.hid S9
                have HMR9 := Lib.hid (fun (wy : World) (hy : Chg (fun _ => False) wc wy) => row_frame (S9.at [_, _]) hy fun _ _ => id)
                clear S9 hc9 hce c1 y0 yb
                go_upto_region 23 with (fail)
                go_region_law (first | (refine step_app rfl _ _ _ (by rfl) base 5 i0 (.int .u8 0) 1 1 Tryd.underlying24 hi hz0 hz1 hz2 rfl (by decide) _ (n + s.held.length + j) _ (by rfl) (HMR9.out _ (by repeat (first | exact Chg.refl _ _ | apply Chg.drew | (refine Chg.setCell ?_ (by simp) _) | (refine Chg.alloc ?_ _) | (refine Chg.setBlock ?_ (by simp) _)))) _ 1 1 [.int .u8 m] (by rfl) (SrcIs.some (by rfl) (by simp [Value.oneCell']) (by first | exact World.news_of_block (heap_alloc_new _ _) | exact World.news_of_block (w := World.drew _) (heap_alloc_new _ _))) (fun h => by cases h) (by have := HNB.out; unfold maxLen; omega) (by have := HNB.out; omega) (by have := HB9.out; simp; omega) ?_; intro v3 w3 hown hgrow hlie; have S10 := Sep.app2 [_, _] (HS9.out.frame (show Chg (fun _ => False) wc _ by repeat (first | exact Chg.refl _ _ | apply Chg.drew | (refine Chg.setCell ?_ (by simp) _) | (refine Chg.alloc ?_ _) | (refine Chg.setBlock ?_ (by simp) _)))) (by have := HB9.out; simp; omega) hown hgrow hlie; have y1' := cell_of_blk S10.1.head 1; have z1' := frozen_of_blk S10.1.head 1; have HS10 := Lib.hid S10.1; have HC10 := Lib.hid (HC9.out.trans (Chg.trans (show Chg (fun i => base ≤ i) wc _ by repeat (first | exact Chg.refl _ _ | apply Chg.drew | (refine Chg.setCell ?_ (by simp) _) | (refine Chg.alloc ?_ _) | (refine Chg.setBlock ?_ (by simp) _))) S10.2 fun _ _ h => h) fun _ _ h => h); obtain ⟨o6, c6, rfl, -⟩ := row_form hown; clear hown hgrow hlie S10))
                all_goals
                  have wkn : IntKind.i64.wrap ((n : Int) + (j : Int) + 1) = (n : Int) + (j : Int) + 1 := by have := HNB.out; rw [IntKind.wrap_i64]; omega
                  go_wp2
                  go_roundg (s.held.length - (j + 1))
                  case measure => have := HJL.out; have := HJG.out; omega
                  case rel =>
                    refine ⟨j + 1, lv5, .slice o6 (n + s.held.length + j + 1) c6, Q ++ [(v5, m)], Ld ++ [(.slice ov xe.length cv, m), (v5, m)], D3, by have := HJL.out; omega, by first | rfl | (congr 1; omega), by rw [List.length_append, HQL.out]; rfl, ?_, ?_, ?_, (HCk.out.trans HC10.out fun _ _ h => h).setCell (p := ⟨B, 1, none⟩) (fun _ => HBB.out) _⟩
                    · intro x hx
                      rcases List.mem_append.1 hx with hx | hx
                      · exact HQB.out x hx
                      · simp only [List.mem_cons, List.not_mem_nil, or_false] at hx
                        rw [hx]
                        exact HMB.out
                    · intro x hx
                      rw [take_snocE HPJ.out] at hx
                      simp only [List.mem_append, List.mem_cons, List.not_mem_nil, or_false] at hx ⊢
                      rcases hx with hx | (hx | hx) | hx | hx
                      · exact .inl (HLD.out x (.inl hx))
                      · exact .inl (HLD.out x (.inr (.inl hx)))
                      · exact .inr (.inl hx)
                      · exact .inl (HLD.out x (.inr (.inr hx)))
                      · exact .inr (.inr hx)
                    · have S11 := HS10.out.cell (i := 1) (x := .slice o6 (n + s.held.length + j + 1) c6) (cs' := #[lv5, .slice o6 (n + s.held.length + j + 1) c6, fv, wv, .slice oH s.held.length cH, .slice oT s.held.length cT]) (Nat.le_trans HBk.out HC10.out.size) (by simp [objSet])
                      have e1 : (s.L ++ (P ++ (Q ++ [(v5, m)]))).length = n + s.held.length + j + 1 := by rw [← List.append_assoc, ← List.append_assoc, List.length_append, List.append_assoc, HLL.out]; rfl
                      unfold coreM
                      rw [e1]
                      rw [HY.out] at S11
                      simpa [u8s, List.append_assoc] using S11
            · have hje : j = s.held.length := by omega
              clear hjg hjl
              subst hje
              obtain ⟨L', hL'⟩ : ∃ L', L' = s.L ++ (P ++ Q) := ⟨_, rfl⟩
              have HL' := Lib.hid hL'
              have hll' : L'.length = n + s.held.length + s.held.length := by rw [hL']; exact HLL.out
              have S5 := HSN.out
              rw [List.drop_length, ← hL', ← hll'] at S5
              simp only [pend, List.nil_append] at S5
              rw [← hll'] at y0 y1
              have hBb2 := Nat.le_trans HBS.out HCk.out.size
              obtain ⟨oF, cF, rfl, -⟩ := row_form (show wk.ownsRow base 24 1 fv s.fresh.length (s.fresh.map fun e : Ent => e.1) from S5.at [_, _, _])
              obtain ⟨oW, cW, rfl, -⟩ := row_form (show wk.ownsRow base 24 1 wv s.fresh.length (s.fresh.map fun e : Ent => e.2.1) from S5.at [_, _, _, _])
              have y2 := cell_of_blk S5.head 2
              have y3 := cell_of_blk S5.head 3
              have y4 := cell_of_blk S5.head 4
              have y5 := cell_of_blk S5.head 5
              have z2 := frozen_of_blk S5.head 2
              have z3 := frozen_of_blk S5.head 3
              have z4 := frozen_of_blk S5.head 4
              have z5 := frozen_of_blk S5.head 5
              have S6 := S5.cell (i := 4) (x := .slice oF s.fresh.length cF) hBb2 (by simp [objSet]; rfl)
              have S7 := S6.cell (i := 5) (x := .slice oW s.fresh.length cW) (by simpa using hBb2) (by simp [objSet]; rfl)
              have S8 := S7.cell (i := 2) (x := .slice none 0 0) (by simpa using hBb2) (by simp [objSet]; rfl)
              have S9 := S8.cell (i := 3) (x := .slice none 0 0) (by simpa using hBb2) (by simp [objSet]; rfl)
              have HCZ := Lib.hid ((((HCk.out.setCell (p := ⟨B, 4, none⟩) (fun _ => HBB.out) (.slice oF s.fresh.length cF)).setCell (p := ⟨B, 5, none⟩) (fun _ => HBB.out) (.slice oW s.fresh.length cW)).setCell (p := ⟨B, 2, none⟩) (fun _ => HBB.out) (.slice none 0 0)).setCell (p := ⟨B, 3, none⟩) (fun _ => HBB.out) (.slice none 0 0))
              have HSZ := Lib.hid S9
              clear S5 S6 S7 S8 S9
              have hLd : ∀ x ∈ L', x ∈ Ld := fun x hx => HLD.out x (by
                rw [hL'] at hx
                rcases List.mem_append.1 hx with hx | hx
                · exact .inl hx
                · rcases List.mem_append.1 hx with hx | hx
                  · exact .inr (.inl (by rw [← HPL.out, List.take_length]; exact hx))
                  · exact .inr (.inr hx))
              have hLb : ∀ x ∈ L', 0 ≤ x.2 ∧ x.2 ≤ 255 := fun x hx => by
                rw [hL'] at hx
                rcases List.mem_append.1 hx with hx | hx
                · exact HSM.out.m x hx
                · rcases List.mem_append.1 hx with hx | hx
                  · rw [HP.out] at hx
                    exact pz_bd _ _ x hx
                  · exact HQB.out x hx
              have HLd := Lib.hid hLd
              have HLb := Lib.hid hLb
              have hLn : L'.length ≤ 3000000 := by have := HN.out; omega
              have HLc := Lib.hid (show L'.length = s.L.length + 2 * s.held.length by have := HN.out; omega)
              clear hLd hLb hL'
              have hnn : (n : Int) + (s.held.length : Int) + (s.held.length : Int) = (L'.length : Int) := by omega
              go_wp2
              obtain ⟨wz, hwz⟩ : ∃ wz, wz = (((wk.setCell ⟨B, 4, none⟩ (.slice oF s.fresh.length cF)).setCell ⟨B, 5, none⟩ (.slice oW s.fresh.length cW)).setCell ⟨B, 2, none⟩ (.slice none 0 0)).setCell ⟨B, 3, none⟩ (.slice none 0 0) := ⟨_, rfl⟩
              rw [← hwz] at HCZ HSZ ⊢
              have HMK2 := Lib.hid (HSZ.out.at [_, _, _, _, _, _, _])
              have HLZ := Lib.hid (show wz.ownsRow base 24 1 (.slice oL4 L'.length cL4) L'.length (L'.map fun x : Value × Int => x.1) from HSZ.out.at [_])
              have HMZ := Lib.hid (show wz.ownsRow base 5 1 (.slice oM4 L'.length cM4) L'.length (u8s (L'.map fun x : Value × Int => x.2)) from HSZ.out.at [_, _])
              clear hwz y0 y1 y2 y3 y4 y5 z2 z3 z4 z5 yb hBb2 hnn hll' hsm1
              go_loopg [12] L'.length (fun g s12 wr => ∃ a : Nat, a + g = L'.length ∧ s12 = .int .i64 a ∧ Chg (fun _ => False) wz wr)
              case atStart => exact ⟨0, by omega, rfl, Chg.refl _ _⟩
              case round =>
                rename World => wa
                obtain ⟨a, hag, rfl, hc⟩ := hrel
                have HAG := Lib.hid hag
                have HCa := Lib.hid hc
                have hBa := hc.blk' HSZ.out.head id
                have yb := blk_lt hBa
                have y0 := cell_of_blk hBa 0
                have y1 := cell_of_blk hBa 1
                clear hc hBa
                by_cases hal : a < L'.length
                · have hal' : (a : Int) < (L'.length : Int) := by omega
                  obtain ⟨x, hx⟩ : ∃ x, L'[a]? = some x := ⟨_, List.getElem?_eq_getElem hal⟩
                  have HGX := Lib.hid (fun (wy : World) (hy : Chg (fun _ => False) wz wy) => (show (∃ g1 k1, Value.slice oL4 L'.length cL4 = .slice (some ⟨g1, 0, none⟩) L'.length k1 ∧ wy.cell? ⟨g1, a, none⟩ = some x.1 ∧ _) from row_get (row_frame HLZ.out hy fun _ _ => id) (by rw [List.length_map]) (i := a) (x := x.1) (by rw [List.getElem?_map, hx]; rfl)))
                  have HGM := Lib.hid (fun (wy : World) (hy : Chg (fun _ => False) wz wy) => (show (∃ g2 k2, Value.slice oM4 L'.length cM4 = .slice (some ⟨g2, 0, none⟩) L'.length k2 ∧ wy.cell? ⟨g2, a, none⟩ = some (.int .u8 x.2) ∧ _) from row_get (row_frame HMZ.out hy fun _ _ => id) (by unfold u8s; rw [List.length_map, List.length_map]) (i := a) (x := .int .u8 x.2) (by unfold u8s; rw [List.getElem?_map, List.getElem?_map, hx]; rfl)))
                  obtain ⟨g1, k1, e1, c1, -⟩ := HGX.out wa HCa.out
                  obtain ⟨g2, k2, e2, c2, -⟩ := HGM.out wa HCa.out
                  simp only [Value.slice.injEq] at e1 e2
                  obtain ⟨rfl, -, rfl⟩ := e1
                  obtain ⟨rfl, -, rfl⟩ := e2
                  have hxm : x ∈ L' := List.mem_of_getElem? hx
                  obtain ⟨nn, hbx⟩ := (HMK2.out.1 x (HLd.out x hxm)).1
                  have HBX := Lib.hid hbx
                  have HAL := Lib.hid hal
                  obtain ⟨xv, xm⟩ := x
                  dsimp only at c1 c2 hbx HBX HGX HGM
                  obtain ⟨ob, cb, hxv, -⟩ := hbx
                  rw [List.length_replicate] at hxv
                  subst hxv
                  have hnl := HBX.out.len
                  rw [List.length_replicate] at hnl
                  unfold maxLen at hnl
                  clear hx hag hal hxm
                  go_wp2
                  go_loopg [13] nn (fun g s13 wr => ∃ k : Nat, k + g = nn ∧ s13 = .int .i64 k ∧ Chg (fun _ => False) wz wr)
                  case atStart => exact ⟨0, by omega, rfl, HCa.out⟩
                  case round =>
                    rename World => wb
                    obtain ⟨k, hkg, rfl, hc⟩ := hrel
                    have HKG := Lib.hid hkg
                    have HCb := Lib.hid hc
                    have hBb := hc.blk' HSZ.out.head id
                    have yb := blk_lt hBb
                    have y0 := cell_of_blk hBb 0
                    have y1 := cell_of_blk hBb 1
                    obtain ⟨g3, k3, e3, c1, -⟩ := HGX.out wb hc
                    obtain ⟨g4, k4, e4, c2, -⟩ := HGM.out wb hc
                    simp only [Value.slice.injEq, Option.some.injEq, Addr.mk.injEq, true_and, and_true] at e3 e4
                    obtain ⟨rfl, rfl⟩ := e3
                    obtain ⟨rfl, rfl⟩ := e4
                    clear hBb
                    by_cases hkl : k < nn
                    · have hkl' : (k : Int) < (nn : Int) := by omega
                      obtain ⟨g5, o5, c5, e5, -, -, hat⟩ := (HBX.out.frame hc fun _ _ => id).at (by rw [List.length_replicate]; omega)
                      simp only [Value.slice.injEq] at e5
                      obtain ⟨rfl, -, rfl⟩ := e5
                      obtain ⟨hcell, -⟩ := hat k xm (by rw [List.getElem?_replicate, if_pos hkl])
                      have hne : (xm != xm) = false := by simp
                      have HKL := Lib.hid hkl
                      clear hat hc hkg hkl
                      go_wp2
                      go_quiet (fail)
                      go_wp2
                      go_roundg (nn - (k + 1))
                      case measure => have := HKL.out; have := HKG.out; omega
                      case rel => exact ⟨k + 1, by have := HKL.out; omega, by go_num, HCb.out.drewN _⟩
                    · have hke : k = nn := by omega
                      clear hkg hkl
                      subst hke
                      go_wp2
                      go_roundg (L'.length - (a + 1))
                      case measure => have := HAL.out; have := HAG.out; omega
                      case rel => exact ⟨a + 1, by have := HAL.out; omega, by go_num, HCb.out⟩
                · have hke : a = L'.length := by omega
                  clear hag hal
                  subst hke
                  go_wp2
                  go_ret
                  have hE := book_end (HSZ.out.frame HCa.out) HLd.out
                  rw [HF.out] at hE
                  have hB : BookAt base wa B ⟨L', s.fresh, []⟩ R := ⟨_, _, _, _, _, _, D2, hE⟩
                  exact ⟨rfl, ⟨L', hB, HLc.out, HLb.out⟩, HCZ.out.trans HCa.out fun _ _ h => h.elim⟩
end Go.Proofs.YtfihpiommicdbaaDoor
