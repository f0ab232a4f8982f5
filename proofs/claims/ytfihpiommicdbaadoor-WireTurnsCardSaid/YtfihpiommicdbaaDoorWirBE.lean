/- The law's pair of readers: contract of alike. No condition. -/
import Derived.Test.YtfihpiommicdbaaDoorWirBB
import Derived.Test.YtfihpiommicdbaaDoorWirN
namespace Go.Proofs.YtfihpiommicdbaaDoor
open Go.RowKit Go.Cl
set_option linter.unusedVariables false
set_option linter.unusedSimpArgs false
attribute [local go_sem] lt_add_one' blk_alloc_past blk_alloc_at blk_drew blk_setCell_ne
attribute [local go_sem ↓] Go.wp_at_zero Go.wp_at_succ

set_option maxHeartbeats 4000000 in
set_option maxRecDepth 100000 in
theorem alike_ok {w : World} {base base' b b' : Nat} {v v' : Value} {s : RS} (hr : RdIs w base b v s) (hv : VdIs w base' b' v' s) :
    Calls Tryd.prog 27 #[.agg #[.pointer (some ⟨b, 0, none⟩), .pointer (some ⟨b', 0, none⟩)]] w fun e w' => e = .returned (.bool true) ∧ Chg (fun _ => False) w w' := by
  have ER := Lib.hid (fun (wy : World) (hy : Chg (fun _ => False) w wy) => (show Calls Tryd.prog 31 #[.pointer (some ⟨b, 0, none⟩)] wy fun r w' => r = .returned (.tuple #[.int .i64 s.bad, .int .i64 s.whv]) ∧ Chg (fun _ => False) wy w' from rerr_ok (hr.frame hy fun _ _ => id)))
  have EV := Lib.hid (fun (wy : World) (hy : Chg (fun _ => False) w wy) => verr_ok (hv.frame hy fun _ _ => id))
  have LR := Lib.hid (fun (wy : World) (hy : Chg (fun _ => False) w wy) => rleft_ok (hr.frame hy fun _ _ => id))
  have LV := Lib.hid (fun (wy : World) (hy : Chg (fun _ => False) w wy) => vleft_ok (hv.frame hy fun _ _ => id))
  have AR := Lib.hid (fun (wy : World) (hy : Chg (fun _ => False) w wy) => rat_ok (hr.frame hy fun _ _ => id))
  have PV := Lib.hid (fun (wy : World) (hy : Chg (fun _ => False) w wy) => (hv.frame hy fun _ _ => id).facts.2.2.1)
  obtain ⟨bd, hbd⟩ : ∃ x, x = s.bad := ⟨_, rfl⟩
  obtain ⟨wh, hwh⟩ : ∃ x, x = s.whv := ⟨_, rfl⟩
  obtain ⟨lf, hlf⟩ : ∃ x, x = s.left := ⟨_, rfl⟩
  obtain ⟨ps, hps⟩ : ∃ x : Int, x = s.pos := ⟨_, rfl⟩
  rw [← hbd, ← hwh] at ER EV
  rw [← hlf] at LR LV
  rw [← hps] at AR PV
  clear hbd hwh hlf hps
  go_enter Tryd.func27, Tryd.ntmps27
  obtain ⟨wa, hwa⟩ : ∃ wa, wa = w.alloc (.cells #[.pointer (some ⟨b, 0, none⟩), .pointer (some ⟨b', 0, none⟩)] 61 (0, 0)) := ⟨_, rfl⟩
  obtain ⟨X, hX⟩ : ∃ X, X = w.heap.size := ⟨_, rfl⟩
  have HX := Lib.hid (show blk wa X = some (.cells #[.pointer (some ⟨b, 0, none⟩), .pointer (some ⟨b', 0, none⟩)] 61 (0, 0)) by rw [hwa, hX]; exact blk_alloc_at _ _ _ rfl)
  have HCa := Lib.hid (show Chg (fun _ => False) w wa by rw [hwa]; exact (Chg.refl _ _).alloc _)
  go_upto_region 1 with (fail)
  rw [← hwa, ← hX]
  have x0 := cell_of_blk HX.out 0
  clear hwa hX
  go_wp2_with fail
  refine (ER.out _ HCa.out).mono ?_
  rintro e w1 ⟨rfl, hc1⟩
  have HC1 := Lib.hid (HCa.out.trans hc1 fun _ _ => id)
  have HX1 := Lib.hid (hc1.blk' HX.out id)
  have x1 := cell_of_blk HX1.out 1
  clear x0 hc1
  go_wp2_with fail
  refine (EV.out _ HC1.out).mono ?_
  rintro e w2 ⟨rfl, hc2⟩
  have HC2 := Lib.hid (HC1.out.trans hc2 fun _ _ => id)
  have HX2 := Lib.hid (hc2.blk' HX1.out id)
  have x0 := cell_of_blk HX2.out 0
  have x1' := cell_of_blk HX2.out 1
  have p0 := PV.out _ HC2.out
  have hb2 : (bd == bd) = true := by simp
  have hb3 : (wh == wh) = true := by simp
  have hb4 : (lf == lf) = true := by simp
  have hb5 : (ps == ps) = true := by simp
  clear x1 hc2
  go_upto_region 3 with (fail)
  have KS := Lib.hid (fun (wy : World) (hy : Chg (fun _ => False) w2 wy) => (show wy.cell? ⟨X, 0, none⟩ = some (.pointer (some ⟨b, 0, none⟩)) ∧ wy.cell? ⟨X, 1, none⟩ = some (.pointer (some ⟨b', 0, none⟩)) ∧ wy.cell? ⟨b', 1, none⟩ = some (.int .i64 ps) from ⟨cell_of_blk (hy.blk' HX2.out id) 0, cell_of_blk (hy.blk' HX2.out id) 1, PV.out _ (HC2.out.trans hy fun _ _ => id)⟩))
  clear x0 x1' p0
  refine wp_region_noPanic ?_
  refine wp_region_held_drew (S := fun w' => w'.cell? ⟨X, 0, none⟩ = some (.pointer (some ⟨b, 0, none⟩)) ∧ w'.cell? ⟨X, 1, none⟩ = some (.pointer (some ⟨b', 0, none⟩)) ∧ w'.cell? ⟨b', 1, none⟩ = some (.int .i64 ps)) (by kernel_rfl) (KS.out _ (Chg.refl _ _).drew) (fun hHeld => ?_)
  refine wpAnyH_take (i := 0) (v := ?v0) rfl (by kernel_rfl) (by kernel_rfl) (by kernel_rfl) (fun _ _ _ h => h) (Or.inl ⟨by kernel_rfl, ?hy0⟩) hHeld ?rest0
  case hy0 =>
    intro w hSw
    try dsimp only at hSw
    obtain ⟨hS1, hS2, hS3⟩ := hSw
    go_simp
    try with_reducible rfl
  simp only [List.getElem_toArray, List.getElem_cons_succ, List.getElem_cons_zero, Act.put, List.setIfInBounds_toArray, List.set_cons_zero, List.set_cons_succ]
  refine wpAnyH_take (i := 1) (v := ?v1) rfl (by kernel_rfl) (by kernel_rfl) (by kernel_rfl) (fun _ _ _ h => h) (Or.inl ⟨by kernel_rfl, ?hy1⟩) hHeld ?rest1
  case hy1 =>
    intro w hSw
    try dsimp only at hSw
    obtain ⟨hS1, hS2, hS3⟩ := hSw
    go_simp
    try with_reducible rfl
  simp only [List.getElem_toArray, List.getElem_cons_succ, List.getElem_cons_zero, Act.put, List.setIfInBounds_toArray, List.set_cons_zero, List.set_cons_succ]
  refine wpAnyH_take (i := 2) (v := ?v2) rfl (by kernel_rfl) (by kernel_rfl) (by kernel_rfl) (fun _ _ _ h => h) (Or.inl ⟨by kernel_rfl, ?hy2⟩) hHeld ?rest2
  case hy2 =>
    intro w hSw
    try dsimp only at hSw
    obtain ⟨hS1, hS2, hS3⟩ := hSw
    go_simp
    try with_reducible rfl
  simp only [List.getElem_toArray, List.getElem_cons_succ, List.getElem_cons_zero, Act.put, List.setIfInBounds_toArray, List.set_cons_zero, List.set_cons_succ]
  refine wpAnyH_take (i := 3) (v := ?v3) rfl (by kernel_rfl) (by kernel_rfl) (by kernel_rfl) (fun _ _ _ h => h) (Or.inl ⟨by kernel_rfl, ?hy3⟩) hHeld ?rest3
  case hy3 =>
    intro w hSw
    try dsimp only at hSw
    obtain ⟨hS1, hS2, hS3⟩ := hSw
    go_simp
    try with_reducible rfl
  simp only [List.getElem_toArray, List.getElem_cons_succ, List.getElem_cons_zero, Act.put, List.setIfInBounds_toArray, List.set_cons_zero, List.set_cons_succ]
  refine wpAnyH_take (i := 4) (v := ?v4) rfl (by kernel_rfl) (by kernel_rfl) (by kernel_rfl) (fun _ _ _ h => h) (Or.inl ⟨by kernel_rfl, ?hy4⟩) hHeld ?rest4
  case hy4 =>
    intro w hSw
    try dsimp only at hSw
    obtain ⟨hS1, hS2, hS3⟩ := hSw
    go_simp
    try with_reducible rfl
  simp only [List.getElem_toArray, List.getElem_cons_succ, List.getElem_cons_zero, Act.put, List.setIfInBounds_toArray, List.set_cons_zero, List.set_cons_succ]
  refine wpAnyH_take (i := 5) (v := ?v5) rfl (by kernel_rfl) (by kernel_rfl) (by kernel_rfl) (fun _ _ _ h => h) (Or.inl ⟨by kernel_rfl, ?hy5⟩) hHeld ?rest5
  case hy5 =>
    intro w hSw
    try dsimp only at hSw
    obtain ⟨hS1, hS2, hS3⟩ := hSw
    go_simp
    try with_reducible rfl
  simp only [List.getElem_toArray, List.getElem_cons_succ, List.getElem_cons_zero, Act.put, List.setIfInBounds_toArray, List.set_cons_zero, List.set_cons_succ]
  refine wpAnyH_take (i := 6) (v := ?v6) rfl (by kernel_rfl) (by kernel_rfl) (by kernel_rfl) (fun _ _ _ h => h) (Or.inl ⟨by kernel_rfl, ?hy6⟩) hHeld ?rest6
  case hy6 =>
    intro w hSw
    try dsimp only at hSw
    obtain ⟨hS1, hS2, hS3⟩ := hSw
    go_simp
    try with_reducible rfl
  simp only [List.getElem_toArray, List.getElem_cons_succ, List.getElem_cons_zero, Act.put, List.setIfInBounds_toArray, List.set_cons_zero, List.set_cons_succ]
  refine wpAnyH_take (i := 7) (v := ?v7) rfl (by kernel_rfl) (by kernel_rfl) (by kernel_rfl) (fun _ _ _ h => h) (Or.inl ⟨by kernel_rfl, ?hy7⟩) hHeld ?rest7
  case hy7 =>
    intro w hSw
    try dsimp only at hSw
    obtain ⟨hS1, hS2, hS3⟩ := hSw
    go_simp
    try with_reducible rfl
  simp only [List.getElem_toArray, List.getElem_cons_succ, List.getElem_cons_zero, Act.put, List.setIfInBounds_toArray, List.set_cons_zero, List.set_cons_succ]
  refine wpAnyH_take (i := 8) (v := ?v8) rfl (by kernel_rfl) (by kernel_rfl) (by kernel_rfl) (fun _ _ _ h => h) (Or.inl ⟨by kernel_rfl, ?hy8⟩) hHeld ?rest8
  case hy8 =>
    intro w hSw
    try dsimp only at hSw
    obtain ⟨hS1, hS2, hS3⟩ := hSw
    go_simp
    try with_reducible rfl
  simp only [List.getElem_toArray, List.getElem_cons_succ, List.getElem_cons_zero, Act.put, List.setIfInBounds_toArray, List.set_cons_zero, List.set_cons_succ]
  refine wpAnyH_take (i := 9) (v := ?v9) rfl (by kernel_rfl) (by kernel_rfl) (by kernel_rfl) (fun _ _ _ h => h) (Or.inl ⟨by kernel_rfl, ?hy9⟩) hHeld ?rest9
  case hy9 =>
    intro w hSw
    try dsimp only at hSw
    obtain ⟨hS1, hS2, hS3⟩ := hSw
    go_simp
    try with_reducible rfl
  simp only [List.getElem_toArray, List.getElem_cons_succ, List.getElem_cons_zero, Act.put, List.setIfInBounds_toArray, List.set_cons_zero, List.set_cons_succ]
  refine wpAnyH_take (i := 10) (v := ?v10) rfl (by kernel_rfl) (by kernel_rfl) (by kernel_rfl) (fun _ _ _ h => h) (Or.inl ⟨by kernel_rfl, ?hy10⟩) hHeld ?rest10
  case hy10 =>
    intro w hSw
    try dsimp only at hSw
    obtain ⟨hS1, hS2, hS3⟩ := hSw
    go_simp
    try with_reducible rfl
  simp only [List.getElem_toArray, List.getElem_cons_succ, List.getElem_cons_zero, Act.put, List.setIfInBounds_toArray, List.set_cons_zero, List.set_cons_succ]
  refine wpAnyH_take (i := 12) (v := ?v12) rfl (by kernel_rfl) (by kernel_rfl) (by kernel_rfl) (fun _ _ _ h => h) (Or.inl ⟨by kernel_rfl, ?hy12⟩) hHeld ?rest12
  case hy12 =>
    intro w hSw
    try dsimp only at hSw
    obtain ⟨hS1, hS2, hS3⟩ := hSw
    go_simp
    try with_reducible rfl
  simp only [List.getElem_toArray, List.getElem_cons_succ, List.getElem_cons_zero, Act.put, List.setIfInBounds_toArray, List.set_cons_zero, List.set_cons_succ]
  refine wpAnyH_take (i := 13) (v := ?v13) rfl (by kernel_rfl) (by kernel_rfl) (by kernel_rfl) (fun _ _ _ h => h) (Or.inl ⟨by kernel_rfl, ?hy13⟩) hHeld ?rest13
  case hy13 =>
    intro w hSw
    try dsimp only at hSw
    obtain ⟨hS1, hS2, hS3⟩ := hSw
    go_simp
    try with_reducible rfl
  simp only [List.getElem_toArray, List.getElem_cons_succ, List.getElem_cons_zero, Act.put, List.setIfInBounds_toArray, List.set_cons_zero, List.set_cons_succ]
  refine wpAnyH_take (i := 14) (v := ?v14) rfl (by kernel_rfl) (by kernel_rfl) (by kernel_rfl) (fun _ _ _ h => h) (Or.inl ⟨by kernel_rfl, ?hy14⟩) hHeld ?rest14
  case hy14 =>
    intro w hSw
    try dsimp only at hSw
    obtain ⟨hS1, hS2, hS3⟩ := hSw
    go_simp
    try with_reducible rfl
  simp only [List.getElem_toArray, List.getElem_cons_succ, List.getElem_cons_zero, Act.put, List.setIfInBounds_toArray, List.set_cons_zero, List.set_cons_succ]
  refine wpAnyH_take (i := 15) (v := ?v15) rfl (by kernel_rfl) (by kernel_rfl) (by kernel_rfl) (fun _ _ _ h => h) (Or.inl ⟨by kernel_rfl, ?hy15⟩) hHeld ?rest15
  case hy15 =>
    intro w hSw
    try dsimp only at hSw
    obtain ⟨hS1, hS2, hS3⟩ := hSw
    go_simp
    try with_reducible rfl
  simp only [List.getElem_toArray, List.getElem_cons_succ, List.getElem_cons_zero, Act.put, List.setIfInBounds_toArray, List.set_cons_zero, List.set_cons_succ]
  refine wpAnyH_take (i := 16) (v := ?v16) rfl (by kernel_rfl) (by kernel_rfl) (by kernel_rfl) (fun _ _ _ h => h) (Or.inl ⟨by kernel_rfl, ?hy16⟩) hHeld ?rest16
  case hy16 =>
    intro w hSw
    try dsimp only at hSw
    obtain ⟨hS1, hS2, hS3⟩ := hSw
    go_simp
    try with_reducible rfl
  simp only [List.getElem_toArray, List.getElem_cons_succ, List.getElem_cons_zero, Act.put, List.setIfInBounds_toArray, List.set_cons_zero, List.set_cons_succ]
  refine wpAnyH_ready (rs := [11]) (by kernel_rfl) (by simp) ?_
  refine AllReadyH.cons rfl (fun K hK => ?_) AllReadyH.nil
  go_simp
  go_at_call 32
  refine (AR.out _ (HC2.out.trans (by repeat (first | exact Chg.refl _ _ | apply Chg.drew | (refine Chg.setCell ?_ (by simp) _) | (refine Chg.alloc ?_ _) | (refine Chg.setBlock ?_ (by simp) _))) fun _ _ => id)).mono ?_
  rintro e w3 ⟨rfl, rfl⟩
  refine hK.out _ _ (hHeld) (fun hHeld => ?_)
  clear hK K
  try simp only [List.getElem_toArray, List.getElem_cons_succ, List.getElem_cons_zero, Act.put, List.setIfInBounds_toArray, List.set_cons_zero, List.set_cons_succ]
  refine wpAnyH_take (i := 17) (v := ?v17) rfl (by kernel_rfl) (by kernel_rfl) (by kernel_rfl) (fun _ _ _ h => h) (Or.inl ⟨by kernel_rfl, ?hy17⟩) hHeld ?rest17
  case hy17 =>
    intro w hSw
    try dsimp only at hSw
    obtain ⟨hS1, hS2, hS3⟩ := hSw
    go_simp
    try with_reducible rfl
  simp only [List.getElem_toArray, List.getElem_cons_succ, List.getElem_cons_zero, Act.put, List.setIfInBounds_toArray, List.set_cons_zero, List.set_cons_succ]
  refine wpAnyH_take (i := 18) (v := ?v18) rfl (by kernel_rfl) (by kernel_rfl) (by kernel_rfl) (fun _ _ _ h => h) (Or.inl ⟨by kernel_rfl, ?hy18⟩) hHeld ?rest18
  case hy18 =>
    intro w hSw
    try dsimp only at hSw
    obtain ⟨hS1, hS2, hS3⟩ := hSw
    go_simp
    try with_reducible rfl
  simp only [List.getElem_toArray, List.getElem_cons_succ, List.getElem_cons_zero, Act.put, List.setIfInBounds_toArray, List.set_cons_zero, List.set_cons_succ]
  refine wpAnyH_take (i := 19) (v := ?v19) rfl (by kernel_rfl) (by kernel_rfl) (by kernel_rfl) (fun _ _ _ h => h) (Or.inl ⟨by kernel_rfl, ?hy19⟩) hHeld ?rest19
  case hy19 =>
    intro w hSw
    try dsimp only at hSw
    obtain ⟨hS1, hS2, hS3⟩ := hSw
    go_simp
    try with_reducible rfl
  simp only [List.getElem_toArray, List.getElem_cons_succ, List.getElem_cons_zero, Act.put, List.setIfInBounds_toArray, List.set_cons_zero, List.set_cons_succ]
  refine wpAnyH_take (i := 20) (v := ?v20) rfl (by kernel_rfl) (by kernel_rfl) (by kernel_rfl) (fun _ _ _ h => h) (Or.inl ⟨by kernel_rfl, ?hy20⟩) hHeld ?rest20
  case hy20 =>
    intro w hSw
    try dsimp only at hSw
    obtain ⟨hS1, hS2, hS3⟩ := hSw
    go_simp
    try with_reducible rfl
  simp only [List.getElem_toArray, List.getElem_cons_succ, List.getElem_cons_zero, Act.put, List.setIfInBounds_toArray, List.set_cons_zero, List.set_cons_succ]
  refine wpAnyH_take (i := 21) (v := ?v21) rfl (by kernel_rfl) (by kernel_rfl) (by kernel_rfl) (fun _ _ _ h => h) (Or.inl ⟨by kernel_rfl, ?hy21⟩) hHeld ?rest21
  case hy21 =>
    intro w hSw
    try dsimp only at hSw
    obtain ⟨hS1, hS2, hS3⟩ := hSw
    go_simp
    try with_reducible rfl
  simp only [List.getElem_toArray, List.getElem_cons_succ, List.getElem_cons_zero, Act.put, List.setIfInBounds_toArray, List.set_cons_zero, List.set_cons_succ]
  refine wpAnyH_take (i := 23) (v := ?v23) rfl (by kernel_rfl) (by kernel_rfl) (by kernel_rfl) (fun _ _ _ h => h) (Or.inl ⟨by kernel_rfl, ?hy23⟩) hHeld ?rest23
  case hy23 =>
    intro w hSw
    try dsimp only at hSw
    obtain ⟨hS1, hS2, hS3⟩ := hSw
    go_simp
    try with_reducible rfl
  simp only [List.getElem_toArray, List.getElem_cons_succ, List.getElem_cons_zero, Act.put, List.setIfInBounds_toArray, List.set_cons_zero, List.set_cons_succ]
  refine wpAnyH_take (i := 24) (v := ?v24) rfl (by kernel_rfl) (by kernel_rfl) (by kernel_rfl) (fun _ _ _ h => h) (Or.inl ⟨by kernel_rfl, ?hy24⟩) hHeld ?rest24
  case hy24 =>
    intro w hSw
    try dsimp only at hSw
    obtain ⟨hS1, hS2, hS3⟩ := hSw
    go_simp
    try with_reducible rfl
  simp only [List.getElem_toArray, List.getElem_cons_succ, List.getElem_cons_zero, Act.put, List.setIfInBounds_toArray, List.set_cons_zero, List.set_cons_succ]
  refine wpAnyH_ready (rs := [22]) (by kernel_rfl) (by simp) ?_
  refine AllReadyH.cons rfl (fun K hK => ?_) AllReadyH.nil
  go_simp
  go_at_call 33
  refine (LR.out _ (HC2.out.trans (by repeat (first | exact Chg.refl _ _ | apply Chg.drew | (refine Chg.setCell ?_ (by simp) _) | (refine Chg.alloc ?_ _) | (refine Chg.setBlock ?_ (by simp) _))) fun _ _ => id)).mono ?_
  rintro e w4 ⟨rfl, hc4⟩
  have HC4 := Lib.hid (Chg.trans (show Chg (fun _ => False) w2 _ by repeat (first | exact Chg.refl _ _ | apply Chg.drew | (refine Chg.setCell ?_ (by simp) _) | (refine Chg.alloc ?_ _) | (refine Chg.setBlock ?_ (by simp) _))) hc4 fun _ _ => id)
  clear hc4
  refine hK.out _ _ (KS.out _ HC4.out) (fun hHeld => ?_)
  clear hK K
  try simp only [List.getElem_toArray, List.getElem_cons_succ, List.getElem_cons_zero, Act.put, List.setIfInBounds_toArray, List.set_cons_zero, List.set_cons_succ]
  refine wpAnyH_ready (rs := [25]) (by kernel_rfl) (by simp) ?_
  refine AllReadyH.cons rfl (fun K hK => ?_) AllReadyH.nil
  go_simp
  go_at_call 70
  refine (LV.out _ (HC2.out.trans HC4.out fun _ _ => id)).mono ?_
  rintro e w5 ⟨rfl, hc5⟩
  have HC5 := Lib.hid (HC4.out.trans hc5 fun _ _ => id)
  clear hc5
  refine hK.out _ _ (KS.out _ HC5.out) (fun hHeld => ?_)
  clear hK K
  try simp only [List.getElem_toArray, List.getElem_cons_succ, List.getElem_cons_zero, Act.put, List.setIfInBounds_toArray, List.set_cons_zero, List.set_cons_succ]
  refine wpAnyH_take (i := 26) (v := ?v26) rfl (by kernel_rfl) (by kernel_rfl) (by kernel_rfl) (fun _ _ _ h => h) (Or.inl ⟨by kernel_rfl, ?hy26⟩) hHeld ?rest26
  case hy26 =>
    intro w hSw
    try dsimp only at hSw
    obtain ⟨hS1, hS2, hS3⟩ := hSw
    go_simp
    try with_reducible rfl
  simp only [List.getElem_toArray, List.getElem_cons_succ, List.getElem_cons_zero, Act.put, List.setIfInBounds_toArray, List.set_cons_zero, List.set_cons_succ]
  refine wpAnyH_take (i := 27) (v := ?v27) rfl (by kernel_rfl) (by kernel_rfl) (by kernel_rfl) (fun _ _ _ h => h) (Or.inl ⟨by kernel_rfl, ?hy27⟩) hHeld ?rest27
  case hy27 =>
    intro w hSw
    try dsimp only at hSw
    obtain ⟨hS1, hS2, hS3⟩ := hSw
    go_simp
    try with_reducible rfl
  simp only [List.getElem_toArray, List.getElem_cons_succ, List.getElem_cons_zero, Act.put, List.setIfInBounds_toArray, List.set_cons_zero, List.set_cons_succ]
  refine wpAnyH_take (i := 28) (v := ?v28) rfl (by kernel_rfl) (by kernel_rfl) (by kernel_rfl) (fun _ _ _ h => h) (Or.inl ⟨by kernel_rfl, ?hy28⟩) hHeld ?rest28
  case hy28 =>
    intro w hSw
    try dsimp only at hSw
    obtain ⟨hS1, hS2, hS3⟩ := hSw
    go_simp
    try with_reducible rfl
  simp only [List.getElem_toArray, List.getElem_cons_succ, List.getElem_cons_zero, Act.put, List.setIfInBounds_toArray, List.set_cons_zero, List.set_cons_succ]
  refine wpAnyH_done (by kernel_rfl) ?_ _
  refine NoPanic.normal ?_
  go_wp2
  go_ret
  exact ⟨rfl, HC2.out.trans HC5.out fun _ _ => id⟩
end Go.Proofs.YtfihpiommicdbaaDoor
