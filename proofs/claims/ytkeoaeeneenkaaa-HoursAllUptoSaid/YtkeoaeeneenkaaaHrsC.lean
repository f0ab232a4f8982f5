/- Hours: slices.Clone of windows; New of any list. No condition. -/
import Derived.Test.YtkeoaeeneenkaaaHrsB
import Derived.Lib.SliceRun
namespace Go.Proofs.Ytkeoaeeneenkaaa
open Go.RowKit Go.Cl
set_option linter.unusedVariables false
set_option linter.unusedSimpArgs false
attribute [local go_sem] lt_add_one' blk_alloc_past blk_alloc_at blk_drew blk_setCell_ne

theorem infoW : ∃ i, Try.prog.info? 36 = some i ∧ i.zero = some (.agg #[.int .i64 0, .int .u64 0, .int .u64 0]) ∧ i.size = 3 ∧ i.bytes = 24 := ⟨_, rfl, by kernel_rfl, by kernel_rfl, by kernel_rfl⟩

theorem winCells_one (l : List Win) : ∀ u ∈ winCells l, u.oneCell' = true := by
  intro u hu
  simp only [winCells, List.mem_flatMap, Win.cells] at hu
  obtain ⟨x, _, hx⟩ := hu
  simp at hx
  rcases hx with rfl | rfl | rfl <;> rfl

theorem clone_any {w : World} {oa : Option Addr} {c : Nat} {l : List Win} (hs : SrcIs w 3 oa l.length (winCells l)) (hc0 : oa = none → c = 0) (hn : l.length ≤ 1000) :
    Calls Try.prog 34 #[.slice oa l.length c] w fun e w' => ∃ v, e = .returned v ∧ w'.ownsRow w.heap.size 36 3 v l.length (winCells l) ∧ Chg (fun _ => False) w w' := by
  obtain ⟨i0, hi, hz0, hz1, hz2⟩ := infoW
  cases oa with
  | none =>
    obtain rfl := hc0 rfl
    have hx : l = [] := by
      obtain ⟨_, _, ⟨_, h⟩ | ⟨ad, h, _⟩⟩ := hs
      · exact List.length_eq_zero_iff.1 h
      · cases h
    subst hx
    have hnil := @Lib.run_eql_slice_nil Try.prog
    go_enter Try.func34, Try.ntmps34
    go_wp2
    go_ret
    exact ⟨_, rfl, ⟨by simp [winCells], .inl ⟨rfl, rfl⟩⟩, Chg.refl _ _⟩
  | some ad =>
    have hnil := @Lib.run_eql_slice_nil Try.prog
    have hs2 : SrcIs (w.alloc (.cells #[] 36 (0, 0))) 3 (some ad) l.length (winCells l) := hs.frame ((Chg.refl _ _).alloc _) fun _ _ => id
    have hrow : (w.alloc (.cells #[] 36 (0, 0))).ownsRow w.heap.size 36 3 (.slice (some ⟨w.heap.size, 0, none⟩) 0 0) 0 [] := ⟨rfl, .inr ⟨_, 0, #[], rfl, Nat.le_refl _, blk_alloc_at _ _ _ rfl, Nat.le_refl _, by simp, rfl, rfl⟩⟩
    have hc : Chg (fun _ => False) w (w.alloc (.cells #[] 36 (0, 0))) := (Chg.refl _ _).alloc _
    have HC := Lib.hid hc
    have HS := Lib.hid hs2
    have HR := Lib.hid hrow
    clear hs hs2 hrow hc
    go_enter Try.func34, Try.ntmps34
    go_wp2_with (at_builtin; refine wpList_app rfl _ _ 39 rfl w.heap.size 36 i0 (.agg #[.int .i64 0, .int .u64 0, .int .u64 0]) 3 24 Try.underlying39 hi hz0 hz1 hz2 rfl (by decide) _ 0 [] rfl HR.out _ l.length c (winCells l) rfl HS.out ?_ ?_ ?_ ?_ ?_)
    · exact hc0
    · unfold maxLen; omega
    · omega
    · exact HC.out.size
    · intro v' w' hown hgrow hlie
      have HO := Lib.hid hown
      have HG := Lib.hid hgrow
      have HL := Lib.hid hlie
      clear hown hgrow hlie
      go_wp2
      go_ret
      refine ⟨_, rfl, ?_, HC.out.trans (Chg.of_grown HG.out) fun i hi h => ?_⟩
      · simpa using HO.out
      · simp [Value.ownBlock] at h
        omega

/-! ### may a list be a table? -/
def okW (major at' : Int) (x : Win) : Bool := decide (1 ≤ x.c) && decide (x.c ≤ 8) && decide (1 ≤ x.n) && decide (at' ≤ x.s) && decide (x.s < major) && decide (x.n ≤ major - x.s)
def okFrom (major : Int) : Int → List Win → Bool
  | _, [] => true
  | a, x :: l => okW major a x && okFrom major (x.s + x.n) l
def Tab.may (T : Tab) : Bool := decide (1 ≤ T.major) && decide (T.major ≤ 1099511627776) && decide (1 ≤ T.l.length) && decide (T.l.length ≤ 32) && okFrom T.major 0 T.l

/-- A window as data. -/
def Win.wf (x : Win) : Prop := I64 x.c ∧ U64 x.s ∧ U64 x.n

theorem okW_iff (major a : Int) (x : Win) : okW major a x = true ↔ 1 ≤ x.c ∧ x.c ≤ 8 ∧ 1 ≤ x.n ∧ a ≤ x.s ∧ x.s < major ∧ x.n ≤ major - x.s := by
  simp [okW, and_assoc]

theorem okFrom_spec {major : Int} : ∀ {a : Int} {l : List Win}, 0 ≤ a → okFrom major a l = true → (∀ x ∈ l, 1 ≤ x.c ∧ x.c ≤ 8 ∧ 1 ≤ x.n ∧ a ≤ x.s ∧ x.s + x.n ≤ major) ∧ l.Pairwise (fun a b => a.s + a.n ≤ b.s)
  | a, [], _, _ => ⟨by simp, by simp⟩
  | a, x :: l, h0, h => by
    simp only [okFrom, Bool.and_eq_true] at h
    have hx := (okW_iff _ _ _).1 h.1
    obtain ⟨h1, h2⟩ := okFrom_spec (a := x.s + x.n) (by omega) h.2
    refine ⟨fun y hy => ?_, List.pairwise_cons.2 ⟨fun y hy => (h1 y hy).2.2.2.1, h2⟩⟩
    rcases List.mem_cons.1 hy with rfl | hy
    · omega
    · have := h1 y hy; omega

theorem Tab.ok_of_may {T : Tab} (h : T.may = true) : T.Ok := by
  simp only [Tab.may, Bool.and_eq_true, decide_eq_true_eq] at h
  obtain ⟨⟨⟨⟨a, b⟩, c⟩, d⟩, e⟩ := h
  obtain ⟨h1, h2⟩ := okFrom_spec (Int.le_refl 0) e
  exact ⟨a, b, c, d, h1, h2⟩

theorem okFrom_of {major : Int} : ∀ {a : Int} {l : List Win}, (∀ x ∈ l, 1 ≤ x.c ∧ x.c ≤ 8 ∧ 1 ≤ x.n ∧ a ≤ x.s ∧ x.s + x.n ≤ major) → l.Pairwise (fun a b => a.s + a.n ≤ b.s) → okFrom major a l = true
  | a, [], _, _ => rfl
  | a, x :: l, h, hp => by
    obtain ⟨p1, p2⟩ := List.pairwise_cons.1 hp
    have hx := h x (by simp)
    simp only [okFrom, Bool.and_eq_true]
    refine ⟨(okW_iff _ _ _).2 ?_, okFrom_of (fun y hy => ?_) p2⟩
    · obtain ⟨a, b, c, d, e⟩ := hx; exact ⟨a, b, c, d, by omega, by omega⟩
    · have := h y (by simp [hy]); have := p1 y hy; omega

theorem Tab.Ok.may {T : Tab} (h : T.Ok) : T.may = true := by
  simp only [Tab.may, Bool.and_eq_true, decide_eq_true_eq]
  exact ⟨⟨⟨⟨h.m1, h.m2⟩, h.n1⟩, h.n2⟩, okFrom_of h.each h.sorted⟩

theorem row_low {w : World} {base : Nat} {e : TypeId} {size : Nat} {v : Value} {n : Nat} {xs : List Value} (h : w.ownsRow base e size v n xs) : w.ownsRow 0 e size v n xs := by
  obtain ⟨h1, h2 | ⟨g, cap, cur, a, b, r⟩⟩ := h
  · exact ⟨h1, .inl h2⟩
  · exact ⟨h1, .inr ⟨g, cap, cur, a, Nat.zero_le _, r⟩⟩

def NewPost (w : World) (T : Tab) (e : Ending) (w' : World) : Prop :=
  if T.may = true then ∃ b sv, e = .returned (.tuple #[ptrV b, .int .i64 0]) ∧ HourIs w' b sv T ∧ w.heap.size ≤ b ∧ (∀ g, sv.ownBlock = some g → w.heap.size ≤ g) ∧ Chg (fun _ => False) w w'
  else e = .returned (.tuple #[.pointer none, .int .i64 180]) ∧ Chg (fun _ => False) w w'

set_option maxHeartbeats 1000000 in
set_option maxRecDepth 100000 in
theorem new_any (major : Int) (hm : U64 major) {w : World} {oa : Option Addr} {c : Nat} {l : List Win} (hs : SrcIs w 3 oa l.length (winCells l)) (hc0 : oa = none → c = 0) (hsp : ∀ a, oa = some a → a.spot = none) (hlc : l.length ≤ c) (hcm : c ≤ maxLen) (hwf : ∀ x ∈ l, x.wf) :
    Calls Try.prog 21 #[.int .u64 major, .slice oa l.length c] w (NewPost w ⟨major, l⟩) := by
  have HS := Lib.hid hs
  have HW := Lib.hid hwf
  have MY := Lib.hid (show Tab.may ⟨major, l⟩ = (decide (1 ≤ major) && decide (major ≤ 1099511627776) && decide (1 ≤ l.length) && decide (l.length ≤ 32) && okFrom major 0 l) from rfl)
  obtain ⟨m0, m1⟩ := hm
  have hcm' : c ≤ 9223372036854775807 := by unfold maxLen at hcm; exact hcm
  clear hs hwf
  by_cases c1 : 1 ≤ major
  · by_cases c2 : major ≤ 1099511627776
    · by_cases c3 : 1 ≤ l.length
      · by_cases c4 : l.length ≤ 32
        · go_enter Try.func21, Try.ntmps21
          obtain ⟨g, o, hoa, hat⟩ : ∃ g o, oa = some ⟨g, o, none⟩ ∧ ∀ j u, (winCells l)[j]? = some u → w.cell? ⟨g, o + j, none⟩ = some u := by
            obtain ⟨_, _, ⟨_, h⟩ | ⟨ad, h, h'⟩⟩ := HS.out
            · omega
            · obtain ⟨g, o, sp⟩ := ad
              have := hsp _ h
              simp at this
              subst this
              exact ⟨g, o, h, fun j u hu => by have := h' j u hu; rwa [addr_add] at this⟩
          subst hoa
          have HAT := Lib.hid hat
          clear hat hc0 hsp
          go_wp2_with (fail)
          go_loopw [6, 27] (fun s6 s27 wr => ∃ (a : Int) (i : Nat), s6 = .int .u64 a ∧ s27 = .int .i64 i ∧ i ≤ l.length ∧ okFrom major 0 l = okFrom major a (l.drop i) ∧ 0 ≤ a ∧ a ≤ major ∧ Chg (fun _ => False) w wr) (fun _ s27 _ => l.length - (intOf s27).toNat)
          case atStart => exact ⟨0, 0, rfl, rfl, by omega, rfl, by omega, by omega, Chg.refl _ _⟩
          case round =>
            obtain ⟨a, i, rfl, rfl, hi, hok, ha0, ha1, hch⟩ := hrel
            have HO := Lib.hid hok
            have HC := Lib.hid hch
            clear hok hch
            by_cases hlt : i < l.length
            · have hx := List.getElem?_eq_getElem hlt
              have hdrop : l.drop i = l[i] :: l.drop (i + 1) := List.drop_eq_getElem_cons hlt
              have hwf := HW.out _ (List.getElem_mem hlt)
              rw [hdrop] at HO
              generalize l[i] = x at *
              obtain ⟨e0, e1, e2⟩ := winCells_at l i x hx
              have d0 := cell_frame HC.out (fun _ _ => id) (HAT.out _ _ e0)
              have d1 := cell_frame HC.out (fun _ _ => id) (HAT.out _ _ e1)
              rw [← Nat.add_assoc] at d1
              have d2 := cell_frame HC.out (fun _ _ => id) (HAT.out _ _ e2)
              rw [← Nat.add_assoc] at d2
              obtain ⟨xc, xs, xn⟩ := x
              obtain ⟨w1, w2, w3⟩ := hwf
              unfold I64 at w1
              unfold U64 at w2 w3
              obtain ⟨w1a, w1b⟩ := w1
              obtain ⟨w2a, w2b⟩ := w2
              obtain ⟨w3a, w3b⟩ := w3
              dsimp only at d0 d1 d2 w1a w1b w2a w2b w3a w3b HO
              have hli : (i : Int) < (l.length : Int) := by omega
              clear hx hdrop e0 e1 e2
              go_upto_region 7 with (fail)
              go_cut [64] from 28 to 70 (fun s64 wq => s64 = .bool (!okW major a ⟨xc, xs, xn⟩) ∧ wq = wr.alloc (.cells #[.int .i64 xc, .int .u64 xs, .int .u64 xn] 36 (0, 0)))
              case first =>
                have hW := okW_iff major a ⟨xc, xs, xn⟩
                by_cases b1 : 1 ≤ xc
                · by_cases b2 : xc ≤ 8
                  · by_cases b3 : 1 ≤ xn
                    · by_cases b4 : a ≤ xs
                      · by_cases b5 : xs < major
                        · by_cases b6 : xn ≤ major - xs
                          · have e : okW major a ⟨xc, xs, xn⟩ = true := hW.2 ⟨b1, b2, b3, b4, b5, b6⟩
                            have E := Lib.hid e
                            clear hW e
                            have b7 : 0 ≤ major - xs := by omega
                            go_wp2
                            go_meet
                            case rel => exact ⟨by rw [E.out]; simp; omega, rfl⟩
                          · have e : okW major a ⟨xc, xs, xn⟩ = false := Bool.eq_false_iff.2 fun h => b6 (hW.1 h).2.2.2.2.2
                            have E := Lib.hid e
                            clear hW e
                            have b7 : 0 ≤ major - xs := by omega
                            go_wp2
                            go_meet
                            case rel => exact ⟨by rw [E.out]; rfl, rfl⟩
                        · have e : okW major a ⟨xc, xs, xn⟩ = false := Bool.eq_false_iff.2 fun h => b5 (hW.1 h).2.2.2.2.1
                          have E := Lib.hid e
                          clear hW e
                          go_wp2
                          go_meet
                          case rel => exact ⟨by rw [E.out]; rfl, rfl⟩
                      · have e : okW major a ⟨xc, xs, xn⟩ = false := Bool.eq_false_iff.2 fun h => b4 (hW.1 h).2.2.2.1
                        have E := Lib.hid e
                        clear hW e
                        go_wp2
                        go_meet
                        case rel => exact ⟨by rw [E.out]; rfl, rfl⟩
                    · have e : okW major a ⟨xc, xs, xn⟩ = false := Bool.eq_false_iff.2 fun h => b3 (hW.1 h).2.2.1
                      have E := Lib.hid e
                      clear hW e
                      go_wp2
                      go_meet
                      case rel => exact ⟨by rw [E.out]; rfl, rfl⟩
                  · have e : okW major a ⟨xc, xs, xn⟩ = false := Bool.eq_false_iff.2 fun h => b2 (hW.1 h).2.1
                    have E := Lib.hid e
                    clear hW e
                    go_wp2
                    go_meet
                    case rel => exact ⟨by rw [E.out]; rfl, rfl⟩
                · have e : okW major a ⟨xc, xs, xn⟩ = false := Bool.eq_false_iff.2 fun h => b1 (hW.1 h).1
                  have E := Lib.hid e
                  clear hW e
                  go_wp2
                  go_meet
                  case rel => exact ⟨by rw [E.out]; rfl, rfl⟩
              case rest =>
                obtain ⟨rfl, rfl⟩ := hcut
                cases hb : okW major a ⟨xc, xs, xn⟩ with
                | true =>
                  obtain ⟨_, _, b3, b4, b5, b6⟩ := (okW_iff _ _ _).1 hb
                  dsimp only at b3 b4 b5 b6
                  have HB := Lib.hid hb
                  clear hb
                  go_wp2
                  go_roundw
                  case rel => exact ⟨xs + xn, i + 1, by go_num, by go_num, by omega, by rw [HO.out]; simp [okFrom, HB.out], by omega, by omega, HC.out.alloc _⟩
                  case measure => simp [intOf]; omega
                | false =>
                  have HB := Lib.hid hb
                  clear hb
                  go_wp2
                  go_ret2
                  unfold NewPost
                  rw [MY.out, if_neg (by rw [HO.out]; simp [okFrom, HB.out])]
                  exact ⟨rfl, HC.out.alloc _⟩
            · have hil : i = l.length := by omega
              subst hil
              have hmay : Tab.may ⟨major, l⟩ = true := by
                rw [MY.out, HO.out, List.drop_length]
                simp [okFrom, c1, c2, c3, c4]
              have HM := Lib.hid hmay
              have CL := Lib.hid (clone_any (HS.out.frame HC.out fun _ _ => id) (fun h => by cases h) (c := c) (by omega))
              clear hmay
              go_wp2_with (fail)
              refine CL.out.mono ?_
              rintro e w2 ⟨v, rfl, hrow, hc2⟩
              obtain ⟨ov, cv, rfl, _⟩ := row_form hrow
              have HR := Lib.hid hrow
              have HC2 := Lib.hid (HC.out.trans hc2 fun _ _ => id)
              have HZ := Lib.hid hc2.size
              clear hrow hc2
              go_wp2
              go_ret2
              unfold NewPost
              rw [if_pos HM.out]
              have hr : w2.ownsRow 0 36 3 (.slice ov l.length cv) l.length (winCells l) := row_low HR.out
              refine ⟨_, _, rfl, ⟨blk_alloc_at _ _ _ rfl, row_frame hr ((Chg.refl (fun _ => False) w2).alloc _) (fun _ _ => id), Tab.ok_of_may HM.out⟩, HC2.out.size, fun g hg => ?_, HC2.out.alloc _⟩
              exact Nat.le_trans HC.out.size (row_block HR.out hg).1
        · go_enter Try.func21, Try.ntmps21
          go_wp2
          go_ret2
          unfold NewPost
          rw [MY.out, if_neg (by simp; intros; omega)]
          exact ⟨rfl, Chg.refl _ _⟩
      · go_enter Try.func21, Try.ntmps21
        go_wp2
        go_ret2
        unfold NewPost
        rw [MY.out, if_neg (by simp; intros; omega)]
        exact ⟨rfl, Chg.refl _ _⟩
    · go_enter Try.func21, Try.ntmps21
      go_wp2
      go_ret2
      unfold NewPost
      rw [MY.out, if_neg (by simp; intros; omega)]
      exact ⟨rfl, Chg.refl _ _⟩
  · go_enter Try.func21, Try.ntmps21
    go_wp2
    go_ret2
    unfold NewPost
    rw [MY.out, if_neg (by simp; intros; omega)]
    exact ⟨rfl, Chg.refl _ _⟩
end Go.Proofs.Ytkeoaeeneenkaaa
