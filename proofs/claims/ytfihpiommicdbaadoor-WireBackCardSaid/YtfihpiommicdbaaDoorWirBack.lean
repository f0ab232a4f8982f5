/- The walk of WireBack. Tied: the table is laid. No other condition. -/
import Derived.Test.YtfihpiommicdbaaDoorWirBackA
namespace Go.Proofs.YtfihpiommicdbaaDoor
open Go.RowKit Go.Cl
set_option linter.unusedVariables false
set_option linter.unusedSimpArgs false
attribute [local go_sem] lt_add_one' blk_alloc_past blk_alloc_at blk_drew blk_setCell_ne

set_option maxRecDepth 100000 in
theorem info50z : ∃ i, Tryd.prog.info? 50 = some i ∧ i.zero = some (.agg #[.int .i64 0, .int .u64 0, .int .i64 0, .slice none 0 0, .string ⟨#[]⟩]) ∧ i.size = 5 ∧ i.bytes = 64 := ⟨_, rfl, by kernel_rfl, by kernel_rfl, by kernel_rfl⟩

/-- Where the filter stands. -/
structure FS (w1 wL wr : World) (k : Nat) (v : Value) (its : List OpV) (sz : Nat) : Prop where
  row : wr.ownsRow wL.heap.size 50 5 v its.length (opsCells its)
  ok : ∀ x ∈ its, OpOkV w1 x
  le : its.length ≤ k
  w1 : wOps (its.map Prod.fst) ≤ sz
  w2 : wOps (its.map Prod.fst) ≤ 900000
  sz : sz ≤ k * 281474976710676
  chg : Chg (fun _ => False) wL wr

theorem FS.step {w1 wL wr w' : World} {k : Nat} {v v' : Value} {its : List OpV} {sz : Nat} (h : FS w1 wL wr k v its sz) {x : OpV} (hx : OpOkV w1 x) (hb : x.1.2.2.2.1.length ≤ 140737488355328) (hs : x.1.2.2.2.2.size ≤ 140737488355328) (hz : sz + wOp x.1 ≤ 900000) (hr : w'.ownsRow wL.heap.size 50 5 v' (its.length + 1) (opsCells its ++ opCells x)) (hc : Chg (fun _ => False) wL w') : FS w1 wL w' (k + 1) v' (its ++ [x]) (sz + wOp x.1) := by
  have h1 := h.w1
  have h2 := h.sz
  have h3 := h.le
  refine ⟨by rw [opsCells_snoc, List.length_append]; exact hr, fun y hy => ?_, by simp; omega, ?_, ?_, ?_, hc⟩
  · rcases List.mem_append.1 hy with hy | hy
    · exact h.ok y hy
    · simp at hy; subst hy; exact hx
  · rw [List.map_append, List.map_cons, List.map_nil, wOps_snoc]; omega
  · rw [List.map_append, List.map_cons, List.map_nil, wOps_snoc]; omega
  · have : wOp x.1 ≤ 281474976710676 := by unfold wOp; omega
    rw [Nat.add_mul]; omega
theorem FS.skip {w1 wL wr w' : World} {k : Nat} {v : Value} {its : List OpV} {sz : Nat} (h : FS w1 wL wr k v its sz) {p : OpT} (hb : p.2.2.2.1.length ≤ 140737488355328) (hs : p.2.2.2.2.size ≤ 140737488355328) (hc : Chg (fun _ => False) wr w') : FS w1 wL w' (k + 1) v its (sz + wOp p) := by
  have h1 := h.w1
  have h2 := h.sz
  have h3 := h.le
  refine ⟨row_frame h.row hc fun _ _ => id, h.ok, by omega, by omega, h.w2, ?_, h.chg.trans hc fun _ _ => id⟩
  have : wOp p ≤ 281474976710676 := by unfold wOp; omega
  rw [Nat.add_mul]; omega

set_option maxHeartbeats 8000000 in
set_option maxRecDepth 100000 in
theorem back_walk {w : World} (hT : TableAt w) {v : Value} {ps : List OpT} (hp : OpsAre w v ps) (hsm : OpsSmall ps) :
    Calls Tryd.prog 8 #[v] w fun e w' => e = .returned (.bool true) ∧ Chg (fun _ => False) w w' := by
  have HK := Lib.hid (known_ok hT)
  have HSM := Lib.hid hsm
  obtain ⟨oa, c, rfl, hc1, hc2, hat⟩ := hp
  have HAT := Lib.hid hat
  obtain ⟨i0, hi, hz0, hz1, hz2⟩ := info50z
  unfold maxLen at hc2
  clear hT hsm hat
  go_enter Tryd.func8, Tryd.ntmps8
  go_wp2_with fail
  refine HK.out.mono ?_
  rintro e w1 ⟨rfl, hc⟩
  have HC1 := Lib.hid hc
  have HNW := Lib.hid (newW_ok 1000000 (by omega) (by omega) w1)
  clear hc HK
  go_wp2_with fail
  refine HNW.out.mono ?_
  rintro e wL ⟨b, m, rfl, hw, hcL⟩
  have HW := Lib.hid hw
  have HCL := Lib.hid hcL
  clear hw hcL HNW
  unfold ptrV at *
  go_upto_block 0 with (fail)
  go_cut [6, 7, 8, 9] from 34 to 74 (fun s6 s7 s8 s9 wx => ∃ (k sz : Nat) (its : List OpV) (wz : World), wz = wx ∧ FS w1 wL wz k s6 its sz)
  case first =>
    go_wp2_with fail
    go_loopw [6, 7, 8] (fun s6 s7 s8 wr => ∃ (k sz : Nat) (its : List OpV) (v6 : Value), k ≤ 60 ∧ k ≤ ps.length ∧ s8 = .int .i64 k ∧ s7 = .int .i64 sz ∧ v6 = s6 ∧ FS w1 wL wr k v6 its sz) (fun _ _ i _ => ps.length - (intOf i).toNat)
    case atStart => exact ⟨0, 0, [], _, by omega, by omega, rfl, rfl, rfl, ⟨rfl, .inl ⟨rfl, rfl⟩⟩, by simp, by simp, by simp [wOps], by simp [wOps], by omega, Chg.refl _ _⟩
    case round =>
      obtain ⟨k, sz, its, v6, hk60, hk, rfl, rfl, rfl, hs⟩ := hrel
      have HS := Lib.hid hs
      by_cases q1 : k < ps.length
      · by_cases q2 : k < 60
        · have q1' : (k : Int) < (ps.length : Int) := by omega
          have q2' : (k : Int) < 60 := by omega
          obtain ⟨g, o, bv, rfl, e0, e1, e2, e3, e4, hb, hok⟩ := HAT.out k _ (List.getElem?_eq_getElem q1)
          have hsmk := HSM.out _ (List.getElem_mem q1)
          generalize ps[k] = p at *
          obtain ⟨y, n, K, B, S⟩ := p
          dsimp only at e0 e1 e2 e3 e4 hb hsmk
          have hcw : Chg (fun _ => False) w wr := (HC1.out.trans HCL.out fun _ _ => id).trans hs.chg fun _ _ => id
          have d0 := cell_frame hcw (fun _ _ => id) e0
          have d1 := cell_frame hcw (fun _ _ => id) e1
          have d2 := cell_frame hcw (fun _ _ => id) e2
          have d3 := cell_frame hcw (fun _ _ => id) e3
          have d4 := cell_frame hcw (fun _ _ => id) e4
          have HB := Lib.hid (hb.frame HC1.out fun _ _ => id)
          have HOK := Lib.hid hok
          have HSK := Lib.hid hsmk
          have HSZ := Lib.hid hs.chg.size
          have hsz : (sz : Int) ≤ 16888498602640560 := by have := Nat.le_trans hs.sz (Nat.mul_le_mul_right _ hk60); omega
          have hs1 : (B.length : Int) ≤ 140737488355328 := by have := hsmk.1; omega
          have hs2 : (S.size : Int) ≤ 140737488355328 := by have := hsmk.2; omega
          obtain ⟨ob, cb, rfl, hob⟩ := hb
          obtain ⟨oL, cL, rfl, -⟩ := row_form hs.row
          have hil : its.length ≤ 60 := Nat.le_trans hs.le hk60
          clear e0 e1 e2 e3 e4 hcw hok hob hs hsmk
          by_cases q3 : y = 7
          · have f3 : (y != 7) = false := by simp [q3]
            have f3' : (y == 7) = true := by simp [q3]
            clear q3
            go_upto_region 12 with (fail)
            obtain ⟨wy, hwy⟩ : ∃ wy, wy = wr.alloc (.cells #[.int .i64 y, .int .u64 n, .int .i64 K, .slice ob B.length cb, .string S] 50 (0, 0)) := ⟨_, rfl⟩
            obtain ⟨P, hP⟩ : ∃ P, P = wr.heap.size := ⟨_, rfl⟩
            rw [← hwy, ← hP]
            have hpb : blk wy P = some (.cells #[.int .i64 y, .int .u64 n, .int .i64 K, .slice ob B.length cb, .string S] 50 (0, 0)) := by rw [hwy, hP]; exact blk_alloc_at _ _ _ rfl
            have hcy : Chg (fun _ => False) wr wy := by rw [hwy]; exact (Chg.refl _ _).alloc _
            have HCY := Lib.hid hcy
            have HPB := Lib.hid hpb
            have c0 : wy.cell? ⟨P, 0, none⟩ = some (.int .i64 y) := cell_of_blk hpb 0
            have c1 : wy.cell? ⟨P, 1, none⟩ = some (.int .u64 n) := cell_of_blk hpb 1
            have c2 : wy.cell? ⟨P, 2, none⟩ = some (.int .i64 K) := cell_of_blk hpb 2
            have c3 : wy.cell? ⟨P, 3, none⟩ = some (.slice ob B.length cb) := cell_of_blk hpb 3
            have c4 : wy.cell? ⟨P, 4, none⟩ = some (.string S) := cell_of_blk hpb 4
            clear hwy hP hpb hcy d0 d1 d2 d3 d4
            obtain ⟨Z, hZ⟩ : ∃ Z : Int, (S.size : Int) = Z := ⟨_, rfl⟩
            obtain ⟨Y, hY⟩ : ∃ Y : Int, (sz : Int) + 20 + (B.length : Int) + (S.size : Int) = Y := ⟨_, rfl⟩
            rw [hY]
            clear hZ
            have HY := Lib.hid hY
            clear hY hsz hs1 hs2
            go_wp2_with fail
            go_roundw
            case rel => exact ⟨k + 1, sz + wOp (y, n, K, B, S), its, _, by omega, by omega, by go_num, by rw [← HY.out]; unfold wOp; push_cast; congr 1; omega, rfl, HS.out.skip HSK.out.1 HSK.out.2 HCY.out⟩
            case measure => simp [intOf]; omega
          · have f3 : (y != 7) = true := by simp [q3]
            have f3' : (y == 7) = false := beq_eq_false_iff_ne.2 q3
            by_cases q4 : S.size < 60000
            · by_cases q5 : sz + wOp (y, n, K, B, S) < 900000
              · have HQ := Lib.hid (And.intro q3 (And.intro q4 q5))
                unfold wOp at q5
                dsimp only at q5
                have q4' : (S.size : Int) ≤ 59999 := by omega
                have q5' : (sz : Int) + 20 + (B.length : Int) + (S.size : Int) ≤ 899999 := by omega
                clear q3 q4 q5
                go_upto_region 12 with (fail)
                obtain ⟨wy, hwy⟩ : ∃ wy, wy = wr.alloc (.cells #[.int .i64 y, .int .u64 n, .int .i64 K, .slice ob B.length cb, .string S] 50 (0, 0)) := ⟨_, rfl⟩
                obtain ⟨P, hP⟩ : ∃ P, P = wr.heap.size := ⟨_, rfl⟩
                rw [← hwy, ← hP]
                have hpb : blk wy P = some (.cells #[.int .i64 y, .int .u64 n, .int .i64 K, .slice ob B.length cb, .string S] 50 (0, 0)) := by rw [hwy, hP]; exact blk_alloc_at _ _ _ rfl
                have hcy : Chg (fun _ => False) wr wy := by rw [hwy]; exact (Chg.refl _ _).alloc _
                have HCY := Lib.hid hcy
                have HPB := Lib.hid hpb
                have c0 : wy.cell? ⟨P, 0, none⟩ = some (.int .i64 y) := cell_of_blk hpb 0
                have c1 : wy.cell? ⟨P, 1, none⟩ = some (.int .u64 n) := cell_of_blk hpb 1
                have c2 : wy.cell? ⟨P, 2, none⟩ = some (.int .i64 K) := cell_of_blk hpb 2
                have c3 : wy.cell? ⟨P, 3, none⟩ = some (.slice ob B.length cb) := cell_of_blk hpb 3
                have c4 : wy.cell? ⟨P, 4, none⟩ = some (.string S) := cell_of_blk hpb 4
                clear hwy hP hpb hcy d0 d1 d2 d3 d4
                obtain ⟨Z, hZ⟩ : ∃ Z : Int, (S.size : Int) = Z := ⟨_, rfl⟩
                obtain ⟨Y, hY⟩ : ∃ Y : Int, (sz : Int) + 20 + (B.length : Int) + (S.size : Int) = Y := ⟨_, rfl⟩
                rw [hY]
                have z4 : Z < 60000 := by omega
                have z5 : Y < 900000 := by omega
                have HY := Lib.hid hY
                clear hY q4' q5' hsz hs1 hs2
                have RO := Lib.hid (row_frame HS.out.row (HCY.out.alloc (.cells #[.int .i64 y, .int .u64 n, .int .i64 K, .slice ob B.length cb, .string S] 50 (0, 0))) fun _ _ => id)
                have HLY := Lib.hid (Nat.le_trans HSZ.out HCY.out.size)
                go_wp2_with (at_builtin; go_loud (refine wpList_app rfl _ _ 33 rfl wL.heap.size 50 i0 (.agg #[.int .i64 0, .int .u64 0, .int .i64 0, .slice none 0 0, .string ⟨#[]⟩]) 5 64 Tryd.underlying33 hi hz0 hz1 hz2 rfl (by decide) (.slice oL its.length cL) its.length (opsCells its) (by rfl) RO.out _ 1 1 (opCells ((y, n, K, B, S), .slice ob B.length cb)) (by rfl) (SrcIs.some (by rfl) (by simp [opCells, Value.oneCell']) (World.news_of_block (heap_alloc_new _ _))) (fun h => by cases h) (by unfold maxLen; omega) (by omega) (by have := HLY.out; simp; omega) ?_); intro v5 w5 hown hgrow hlie)
                have HC5 := Lib.hid ((HS.out.chg.trans (HCY.out.alloc (.cells #[.int .i64 y, .int .u64 n, .int .i64 K, .slice ob B.length cb, .string S] 50 (0, 0))) fun _ _ => id).trans (Chg.of_grown hgrow) fun i hi h => by
                  have := (row_block RO.out h.symm).1
                  omega)
                have HO5 := Lib.hid hown
                clear hown hgrow hlie
                obtain ⟨o5, c5, rfl, -⟩ := row_form HO5.out
                go_wp2
                go_roundw
                case rel => exact ⟨k + 1, sz + wOp (y, n, K, B, S), its ++ [((y, n, K, B, S), .slice ob B.length cb)], _, by omega, by omega, by go_num, by rw [← HY.out]; unfold wOp; push_cast; congr 1; omega, rfl, HS.out.step ⟨HB.out, HOK.out, HQ.out.1, HQ.out.2.1, by have := HQ.out.2.2; unfold wOp at this; dsimp only at this ⊢; omega⟩ HSK.out.1 HSK.out.2 (by have := HQ.out.2.2; show sz + wOp (y, n, K, B, S) ≤ 900000; omega) HO5.out HC5.out⟩
                case measure => simp [intOf]; omega
              · unfold wOp at q5
                dsimp only at q5
                go_upto_region 12 with (fail)
                obtain ⟨wy, hwy⟩ : ∃ wy, wy = wr.alloc (.cells #[.int .i64 y, .int .u64 n, .int .i64 K, .slice ob B.length cb, .string S] 50 (0, 0)) := ⟨_, rfl⟩
                obtain ⟨P, hP⟩ : ∃ P, P = wr.heap.size := ⟨_, rfl⟩
                rw [← hwy, ← hP]
                have hpb : blk wy P = some (.cells #[.int .i64 y, .int .u64 n, .int .i64 K, .slice ob B.length cb, .string S] 50 (0, 0)) := by rw [hwy, hP]; exact blk_alloc_at _ _ _ rfl
                have hcy : Chg (fun _ => False) wr wy := by rw [hwy]; exact (Chg.refl _ _).alloc _
                have HCY := Lib.hid hcy
                have HPB := Lib.hid hpb
                have c0 : wy.cell? ⟨P, 0, none⟩ = some (.int .i64 y) := cell_of_blk hpb 0
                have c1 : wy.cell? ⟨P, 1, none⟩ = some (.int .u64 n) := cell_of_blk hpb 1
                have c2 : wy.cell? ⟨P, 2, none⟩ = some (.int .i64 K) := cell_of_blk hpb 2
                have c3 : wy.cell? ⟨P, 3, none⟩ = some (.slice ob B.length cb) := cell_of_blk hpb 3
                have c4 : wy.cell? ⟨P, 4, none⟩ = some (.string S) := cell_of_blk hpb 4
                clear hwy hP hpb hcy d0 d1 d2 d3 d4
                obtain ⟨Z, hZ⟩ : ∃ Z : Int, (S.size : Int) = Z := ⟨_, rfl⟩
                obtain ⟨Y, hY⟩ : ∃ Y : Int, (sz : Int) + 20 + (B.length : Int) + (S.size : Int) = Y := ⟨_, rfl⟩
                rw [hY]
                have z4 : Z < 60000 := by omega
                have z5 : ¬ Y < 900000 := by omega
                clear q4 q5
                have HY := Lib.hid hY
                clear hY hsz hs1 hs2
                go_wp2_with fail
                go_roundw
                case rel => exact ⟨k + 1, sz + wOp (y, n, K, B, S), its, _, by omega, by omega, by go_num, by rw [← HY.out]; unfold wOp; push_cast; congr 1; omega, rfl, HS.out.skip HSK.out.1 HSK.out.2 HCY.out⟩
                case measure => simp [intOf]; omega
            · go_upto_region 12 with (fail)
              obtain ⟨wy, hwy⟩ : ∃ wy, wy = wr.alloc (.cells #[.int .i64 y, .int .u64 n, .int .i64 K, .slice ob B.length cb, .string S] 50 (0, 0)) := ⟨_, rfl⟩
              obtain ⟨P, hP⟩ : ∃ P, P = wr.heap.size := ⟨_, rfl⟩
              rw [← hwy, ← hP]
              have hpb : blk wy P = some (.cells #[.int .i64 y, .int .u64 n, .int .i64 K, .slice ob B.length cb, .string S] 50 (0, 0)) := by rw [hwy, hP]; exact blk_alloc_at _ _ _ rfl
              have hcy : Chg (fun _ => False) wr wy := by rw [hwy]; exact (Chg.refl _ _).alloc _
              have HCY := Lib.hid hcy
              have HPB := Lib.hid hpb
              have c0 : wy.cell? ⟨P, 0, none⟩ = some (.int .i64 y) := cell_of_blk hpb 0
              have c1 : wy.cell? ⟨P, 1, none⟩ = some (.int .u64 n) := cell_of_blk hpb 1
              have c2 : wy.cell? ⟨P, 2, none⟩ = some (.int .i64 K) := cell_of_blk hpb 2
              have c3 : wy.cell? ⟨P, 3, none⟩ = some (.slice ob B.length cb) := cell_of_blk hpb 3
              have c4 : wy.cell? ⟨P, 4, none⟩ = some (.string S) := cell_of_blk hpb 4
              clear hwy hP hpb hcy d0 d1 d2 d3 d4
              obtain ⟨Z, hZ⟩ : ∃ Z : Int, (S.size : Int) = Z := ⟨_, rfl⟩
              obtain ⟨Y, hY⟩ : ∃ Y : Int, (sz : Int) + 20 + (B.length : Int) + (S.size : Int) = Y := ⟨_, rfl⟩
              rw [hY]
              have z4 : ¬ Z < 60000 := by omega
              clear q4
              have HY := Lib.hid hY
              clear hY hsz hs1 hs2
              go_wp2_with fail
              go_roundw
              case rel => exact ⟨k + 1, sz + wOp (y, n, K, B, S), its, _, by omega, by omega, by go_num, by rw [← HY.out]; unfold wOp; push_cast; congr 1; omega, rfl, HS.out.skip HSK.out.1 HSK.out.2 HCY.out⟩
              case measure => simp [intOf]; omega
        · have q1' : (k : Int) < (ps.length : Int) := by omega
          have q2' : ¬ (k : Int) < 60 := by omega
          go_wp2
          go_meet
          case rel => exact ⟨k, sz, its, _, rfl, HS.out⟩
      · have q1' : ¬ (k : Int) < (ps.length : Int) := by omega
        go_wp2
        go_meet
        case rel => exact ⟨k, sz, its, _, rfl, HS.out⟩
  case rest =>
    obtain ⟨k, sz, its, wq, rfl, hs⟩ := hcut
    have HS := Lib.hid hs
    obtain ⟨oL, cL, rfl, hcl1, hcl2, -⟩ := row_form hs.row
    unfold maxLen at hcl2
    have HWL := Lib.hid (HW.out.frame hs.chg fun _ _ => id)
    obtain ⟨l, hl⟩ : ∃ l, l = its.map Prod.fst := ⟨_, rfl⟩
    have HL := Lib.hid hl
    have HLL := Lib.hid (show l.length = its.length by rw [hl, List.length_map])
    have HF := Lib.hid (show ∀ q ∈ l, OpFit q from fun q hq => by
      rw [hl] at hq
      obtain ⟨x, hx, rfl⟩ := List.mem_map.1 hq
      exact (hs.ok x hx).2.2)
    have HWH := Lib.hid (show (whole l).length ≤ 900000 from Nat.le_trans (whole_le l) (by rw [hl]; exact hs.w2))
    have HCQ := Lib.hid (HCL.out.trans hs.chg fun _ _ => id)
    clear hs hl
    unfold ptrV at *
    go_wp2_with fail
    go_loopw [10] (fun s10 wr => ∃ (k n1 : Nat) (bs : List Int), s10 = .int .i64 n1 ∧ n1 ≤ its.length ∧ k ≤ n1 ∧ bs ++ (encs (enc 3) (l.length - k) (l.drop n1)).1 = whole l ∧ WGoes wq wr w1.heap.size b m (.slice none 0 0) { WS.zero 1000000 with xs := bs }) (fun i _ => its.length - (intOf i).toNat)
    case atStart => exact ⟨0, 0, [], rfl, by omega, by omega, rfl, HWL.out.stays (Chg.refl _ _)⟩
    case round =>
      obtain ⟨k1, n1, bs, rfl, hn1, hk1, hbs, hg⟩ := hrel
      have HGK := Lib.hid hg
      have HBS := Lib.hid hbs
      clear hg hbs
      by_cases q2 : n1 < its.length
      · have q2' : (n1 : Int) < (its.length : Int) := by omega
        obtain ⟨q, l', hql⟩ : ∃ q l', l.drop n1 = q :: l' := by
          cases e : l.drop n1 with
          | nil => have h1 := congrArg List.length e; rw [List.length_drop, List.length_nil] at h1; have := HLL.out; omega
          | cons q l' => exact ⟨q, l', rfl⟩
        have hl' : l'.length + 1 = its.length - n1 := by have h1 := congrArg List.length hql; rw [List.length_drop, List.length_cons] at h1; have := HLL.out; omega
        have hck : l.length - k1 = (l.length - (k1 + 1)) + 1 := by have := HLL.out; omega
        have hT1 := HBS.out
        rw [hck, hql, encs_step, ← hql] at hT1
        dsimp only at hT1
        have hfl := enc_le 3 (l.drop n1)
        have hfp := enc_pos 3 q l'
        rw [← hql] at hfp
        rw [List.length_drop] at hfl
        rw [List.drop_drop] at hT1
        have hTl := congrArg List.length hT1
        simp only [List.length_append] at hTl
        obtain ⟨v1, hw1, hc1, hf1⟩ := HGK.out
        obtain ⟨g, cap, hv, hg1, hg2, hg3, hops⟩ := ops_at HS.out.row HS.out.ok (by omega)
        simp only [Value.slice.injEq] at hv
        obtain ⟨rfl, -, rfl⟩ := hv
        rw [← HL.out] at hops
        obtain ⟨curg, hcurg, -⟩ := id hops
        have hops2 := (hops.frame hc1 (HWL.out.not_foot hcurg (by decide) (by decide))).drop n1
        have hcall := @writes_all w1 3 (by omega) _ b m g (0 + n1 * 5) (cL - n1) _ _ q l' (by omega) (by unfold maxLen; omega) (by rw [← hql]; exact hops2) (fun x hx => HF.out x (List.mem_of_mem_drop (by rw [hql]; exact hx))) hw1 (HCQ.out.trans hc1 fun i hi h => by have := (HWL.out.foot h).1; omega) rfl (by
          have := HWH.out
          rw [← hql]
          show (bs.length : Int) + _ ≤ 1000000
          omega)
        rw [← hql, hl', Nat.zero_add, show ((3 : Nat) : Int) = 3 from rfl] at hcall
        obtain ⟨R, hR⟩ : ∃ R, R = enc 3 (l.drop n1) := ⟨_, rfl⟩
        rw [← hR] at hcall hfl hfp hT1
        have HCALL := Lib.hid hcall
        have HT1 := Lib.hid hT1
        have HC1' := Lib.hid hc1
        have HF1 := Lib.hid hf1
        have HR2 := Lib.hid (show n1 + R.2 ≤ its.length by have := HLL.out; omega)
        have hR3 := HR2.out
        clear hT1 hTl hw1 hc1 hf1 hops hops2 hcall hR hql hck hcurg hl' hfl
        unfold ptrV at *
        go_wp2_with fail
        refine HCALL.out.mono ?_
        rintro e wb ⟨rfl, hg⟩
        have HG2 := Lib.hid (WGoes.after HC1'.out HF1.out hg)
        clear hg HCALL
        go_wp2
        go_roundw
        case rel => exact ⟨k1 + 1, n1 + R.2, bs ++ R.1, by go_num, HR2.out, by omega, by rw [List.append_assoc]; exact HT1.out, HG2.out⟩
        case measure => simp [intOf]; omega
      · have hne : n1 = its.length := by omega
        have hT : bs = whole l := by
          have h1 := HBS.out
          rw [List.drop_eq_nil_of_le (by have := HLL.out; omega), encs_nil, List.append_nil] at h1
          exact h1
        subst hT
        have q2' : ¬ (n1 : Int) < (its.length : Int) := by omega
        obtain ⟨v1, hw1, hc1, hf1⟩ := HGK.out
        have HDN := Lib.hid (wdone_ok hw1 rfl)
        have HBY := Lib.hid hw1.fine.byte
        have HWR := Lib.hid (show Chg (fun _ => False) w1 wr from HCQ.out.trans hc1 fun i hi h => by have := (HWL.out.foot h).1; omega)
        clear hw1 hc1 hf1 hne
        unfold ptrV at *
        go_wp2_with fail
        refine HDN.out.mono ?_
        rintro e wd ⟨v2, rfl, hrow, hcd⟩
        have HCD := Lib.hid hcd
        have HNR := Lib.hid (newR_ok (row_bytes hrow HBY.out) (by have := HWH.out; show (whole l).length ≤ _; omega))
        obtain ⟨o2, c2, rfl, -⟩ := row_form hrow
        clear hcd hrow HDN
        go_wp2_with fail
        refine HNR.out.mono ?_
        rintro e we ⟨br, vr, rfl, hr, hce⟩
        have HR := Lib.hid hr
        have HCE := Lib.hid hce
        have HWE := Lib.hid ((HWR.out.trans HCD.out fun _ _ => id).trans hce fun _ _ => id)
        clear hr hce HNR
        go_wp2_with fail
        go_loopw [15] (fun s15 wz => ∃ (k n1 : Nat) (bs : List Int), s15 = .int .i64 n1 ∧ n1 ≤ its.length ∧ k ≤ n1 ∧ bs ++ (encs (enc 3) (l.length - k) (l.drop n1)).1 = whole l ∧ RGoes we wz wd.heap.size br vr ((RS.zero (whole l)).on bs.length)) (fun i _ => its.length - (intOf i).toNat)
        case atStart => exact ⟨0, 0, [], rfl, by omega, by omega, rfl, HR.out, Chg.refl _ _⟩
        case round =>
          obtain ⟨k1, n1, bs, rfl, hn1, hk1, hbs, hg⟩ := hrel
          have HGK2 := Lib.hid hg
          have HBS2 := Lib.hid hbs
          clear hg hbs
          by_cases q3 : n1 < its.length
          · have q3' : (n1 : Int) < (its.length : Int) := by omega
            obtain ⟨q, l', hql⟩ : ∃ q l', l.drop n1 = q :: l' := by
              cases e : l.drop n1 with
              | nil => have h1 := congrArg List.length e; rw [List.length_drop, List.length_nil] at h1; have := HLL.out; omega
              | cons q l' => exact ⟨q, l', rfl⟩
            have hl' : l'.length + 1 = its.length - n1 := by have h1 := congrArg List.length hql; rw [List.length_drop, List.length_cons] at h1; have := HLL.out; omega
            have hck : l.length - k1 = (l.length - (k1 + 1)) + 1 := by have := HLL.out; omega
            have hT1 := HBS2.out
            rw [hck, hql, encs_step, ← hql] at hT1
            dsimp only at hT1
            have hfl := enc_le 3 (l.drop n1)
            have hfp := enc_pos 3 q l'
            rw [← hql] at hfp
            rw [List.length_drop] at hfl
            have hza := zero_ahead hT1
            rw [List.drop_drop] at hT1
            obtain ⟨g, cap, hv, hg1, hg2, hg3, hops⟩ := ops_at HS.out.row HS.out.ok (by omega)
            simp only [Value.slice.injEq] at hv
            obtain ⟨rfl, -, rfl⟩ := hv
            rw [← HL.out] at hops
            obtain ⟨curg, hcurg, -⟩ := id hops
            have hgl := blk_lt hcurg
            obtain ⟨v1, hw1, hc1, hf1⟩ := HGK.out
            have hops1 := ((hops.frame hc1 (HWL.out.not_foot hcurg (by decide) (by decide))).frame HCD.out id).frame HCE.out id
            have hsz1 : wq.heap.size ≤ wd.heap.size := Nat.le_trans hc1.size HCD.out.size
            have hops2 := (hops1.frame HGK2.out.2 (by have := HGK2.out.1.nb; omega)).drop n1
            have hcall := @reads_all w1 3 (by omega) _ _ _ g (0 + n1 * 5) (cL - n1) _ _ q l' _ (by omega) (by unfold maxLen; omega) (by rw [← hql]; exact hops2) (fun x hx => HF.out x (List.mem_of_mem_drop (by rw [hql]; exact hx))) HGK2.out.1 (Nat.le_trans HCE.out.size HGK2.out.2.size) (HWE.out.trans HGK2.out.2 fun i hi h => by subst h; have h1 := HGK2.out.1.nb; have h2 := HWR.out.size; have h3 := HCD.out.size; omega) rfl (Nat.le_trans HWR.out.size HCD.out.size) (by have := HWH.out; show (whole l).length ≤ _; omega) (by rw [← hql]; exact hza)
            rw [← hql, hl', Nat.zero_add, show ((3 : Nat) : Int) = 3 from rfl] at hcall
            obtain ⟨R, hR⟩ : ∃ R, R = enc 3 (l.drop n1) := ⟨_, rfl⟩
            rw [← hR] at hcall hfl hfp hT1
            have HCALL := Lib.hid hcall
            have HT1 := Lib.hid hT1
            have hR3 : n1 + R.2 ≤ its.length := by have := HLL.out; omega
            have HR2 := Lib.hid hR3
            have hR0 : ((R.2 : Int) == 0) = false := beq_eq_false_iff_ne.2 (by omega)
            clear hT1 hw1 hc1 hf1 hops hops1 hops2 hcall hR hql hck hcurg hl' hfl hza hsz1
            go_wp2_with fail
            refine HCALL.out.mono ?_
            rintro e wb ⟨rfl, hg⟩
            have hg2 := RGoes.after HGK2.out.2 hg
            rw [on_on, ← List.length_append] at hg2
            have HG2 := Lib.hid hg2
            clear hg hg2 HCALL
            go_wp2
            go_roundw
            case rel => exact ⟨k1 + 1, n1 + R.2, bs ++ R.1, by go_num, HR2.out, by omega, by rw [List.append_assoc]; exact HT1.out, HG2.out⟩
            case measure => simp [intOf]; omega
          · have q3' : ¬ (n1 : Int) < (its.length : Int) := by omega
            have hT : bs = whole l := by
              have h1 := HBS2.out
              rw [List.drop_eq_nil_of_le (by have := HLL.out; omega), encs_nil, List.append_nil] at h1
              exact h1
            subst hT
            have HE := Lib.hid (rend_ok HGK2.out.1)
            rw [zero_end] at HE
            go_wp2_with fail
            refine HE.out.mono ?_
            rintro e wf ⟨rfl, hg⟩
            have HF1 := Lib.hid hg
            have HER := Lib.hid (rerr_ok hg.1)
            rw [if_pos (show ((RS.zero (whole l)).on (whole l).length).bad = 0 from rfl), show ((RS.zero (whole l)).on (whole l).length).bad = 0 from rfl] at HER
            clear hg HE
            go_wp2_with fail
            refine HER.out.mono ?_
            rintro e wg ⟨rfl, hc⟩
            have HCG := Lib.hid hc
            have HAT2 := Lib.hid (rat_ok (HF1.out.1.frame hc fun _ _ => id))
            have HLF := Lib.hid (rleft_ok (HF1.out.1.frame hc fun _ _ => id))
            clear hc HER
            rw [show ((RS.zero (whole l)).on (whole l).length).pos = (whole l).length from Nat.zero_add _] at HAT2
            rw [show ((RS.zero (whole l)).on (whole l).length).left = 0 by
              unfold RS.left
              rw [if_pos (show ((RS.zero (whole l)).on (whole l).length).bad = 0 from rfl)]
              show ((whole l).length : Int) - (0 + (whole l).length : Nat) = 0
              omega] at HLF
            go_wp2_with fail
            refine HAT2.out.mono ?_
            rintro e wh ⟨rfl, rfl⟩
            go_wp2_with fail
            refine HLF.out.mono ?_
            rintro e wi ⟨rfl, hc⟩
            have HCI := Lib.hid hc
            clear hc HLF
            go_wp2
            go_ret
            refine ⟨by simp, ?_⟩
            have h1 := HC1.out.trans HWE.out fun _ _ => id
            have h2 := ((HGK2.out.2.trans HF1.out.2 fun _ _ h => h).trans HCG.out fun _ _ h => h.elim).trans HCI.out fun _ _ h => h.elim
            refine h1.trans h2 fun i hi h => ?_
            subst h
            have h3 := HGK2.out.1.nb
            have h4 := HC1.out.size
            have h5 := HWR.out.size
            have h6 := HCD.out.size
            omega

theorem back_row (w : World) (hT : TableAt w) {v : Value} (h : ∃ us, OpsAre w v us ∧ OpsSmall us) :
    Calls Tryd.prog 8 #[v] w fun e w' => e = .returned (.bool true) ∧ Chg (fun _ => False) w w' := by
  obtain ⟨ps, h1, h2⟩ := h
  exact back_walk hT h1 h2
end Go.Proofs.YtfihpiommicdbaaDoor
