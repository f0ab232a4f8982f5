/- Hours: a cell's windows in the frame. No condition. -/
import Derived.Test.YtkeoaeeneenkaaaHrsF
namespace Go.Proofs.Ytkeoaeeneenkaaa
open Go.RowKit Go.Cl
set_option linter.unusedVariables false
set_option linter.unusedSimpArgs false
attribute [local go_sem] lt_add_one' blk_alloc_past blk_alloc_at blk_drew blk_setCell_ne

theorem infoI : ∃ i, Try.prog.info? 3 = some i ∧ i.zero = some (.int .i64 0) ∧ i.size = 1 ∧ i.bytes = 8 := ⟨_, rfl, by kernel_rfl, by kernel_rfl, by kernel_rfl⟩

def ints (xs : List Int) : List Value := xs.map (Value.int .i64)
theorem ints_one (xs : List Int) : ∀ u ∈ ints xs, u.oneCell' = true := fun u hu => by
  obtain ⟨b, _, rfl⟩ := List.mem_map.1 hu
  rfl
theorem ints_len (xs : List Int) : (ints xs).length = xs.length := by simp [ints]

/-- The places of a cell's windows. -/
def ofIdx (c : Int) : Nat → List Win → List Int
  | _, [] => []
  | k, x :: l => if x.c = c then (k : Int) :: ofIdx c (k + 1) l else ofIdx c (k + 1) l

theorem ofIdx_len (c : Int) : ∀ (k : Nat) (l : List Win), (ofIdx c k l).length ≤ l.length
  | _, [] => by simp [ofIdx]
  | k, x :: l => by
    have := ofIdx_len c (k + 1) l
    unfold ofIdx
    split <;> simp <;> omega

theorem src_int (w : World) (a : Int) : SrcIs (w.alloc (.cells #[.int .i64 a] 3 (0, 0))) 1 (some ⟨w.heap.size, 0, none⟩) 1 [.int .i64 a] := by
  have hb := blk_alloc_at w (.cells #[.int .i64 a] 3 (0, 0)) _ rfl
  refine SrcIs.some rfl (by simp [Value.oneCell']) fun j u hu => ?_
  rw [addr_add, Nat.zero_add, cell_of_blk hb]
  simpa using hu

def OfPost (T : Tab) (c : Int) (w : World) (e : Ending) (w' : World) : Prop := ∃ v, e = .returned v ∧ w'.ownsRow w.heap.size 3 1 v (ofIdx c 0 T.l).length (ints (ofIdx c 0 T.l)) ∧ Chg (fun _ => False) w w'

set_option maxHeartbeats 2000000 in
set_option maxRecDepth 100000 in
theorem Of_ok {w : World} {b : Nat} {sv : Value} {T : Tab} (h : HourIs w b sv T) (c : Int) : Calls Try.prog 13 #[ptrV b, .int .i64 c] w (OfPost T c w) := by
  have H := Lib.hid h
  obtain ⟨hb, c0, c1, g, cap, rfl, hg, h1, h2, hat⟩ := h.facts
  have n1 := h.ok.n1
  have n2 := h.ok.n2
  have HAT := Lib.hid hat
  obtain ⟨i0, hi, hz0, hz1, hz2⟩ := infoI
  unfold ptrV at *
  unfold maxLen at h2
  clear hat h
  go_enter Try.func13, Try.ntmps13
  go_wp2_with (fail)
  go_loopw [5, 13] (fun s5 s13 wr => ∃ (v : Value) (out : List Int) (i : Nat), s5 = v ∧ s13 = .int .i64 i ∧ i ≤ T.l.length ∧ out.length ≤ i ∧ wr.ownsRow w.heap.size 3 1 v out.length (ints out) ∧ ofIdx c 0 T.l = out ++ ofIdx c i (T.l.drop i) ∧ Chg (fun _ => False) w wr) (fun _ s13 _ => T.l.length - (intOf s13).toNat)
  case atStart => exact ⟨_, [], 0, rfl, rfl, Nat.zero_le _, Nat.le_refl _, ⟨rfl, .inl ⟨rfl, rfl⟩⟩, rfl, Chg.refl _ _⟩
  case round =>
    obtain ⟨v, out, i, rfl, rfl, hil, hol, hrow, hof, hch⟩ := hrel
    obtain ⟨ov, cv, rfl, hcv, hcm, _⟩ := row_form hrow
    have HR := Lib.hid hrow
    have HO := Lib.hid hof
    have HC := Lib.hid hch
    unfold maxLen at hcm
    clear hrow hof hch
    by_cases hlt : i < T.l.length
    · have hx := List.getElem?_eq_getElem hlt
      have hdrop : T.l.drop i = T.l[i] :: T.l.drop (i + 1) := List.drop_eq_getElem_cons hlt
      rw [hdrop] at HO
      generalize T.l[i] = x at *
      obtain ⟨e0, e1, e2⟩ := HAT.out i x hx
      have d0 := cell_frame HC.out (fun _ _ => id) e0
      have d1 := cell_frame HC.out (fun _ _ => id) e1
      have d2 := cell_frame HC.out (fun _ _ => id) e2
      have hli : (i : Int) < (T.l.length : Int) := by omega
      clear hx hdrop e0 e1 e2
      obtain ⟨xc, xs, xn⟩ := x
      dsimp only at d0 d1 d2
      by_cases q : xc = c
      · subst q
        have hw := src_int (wr.alloc (.cells #[.int .i64 xc, .int .u64 xs, .int .u64 xn] 36 (0, 0))) i
        simp only [World.size_alloc] at hw
        have HW := Lib.hid hw
        have HRA := Lib.hid (row_frame HR.out (((Chg.refl (fun _ => False) wr).alloc (.cells #[.int .i64 xc, .int .u64 xs, .int .u64 xn] 36 (0, 0))).alloc (.cells #[.int .i64 i] 3 (0, 0))) fun _ _ => id)
        have HSZ := Lib.hid HC.out.size
        have qq : (xc == xc) = true := by simp
        clear hw
        go_wp2_with (at_builtin; refine wpList_app rfl _ _ 22 rfl w.heap.size 3 i0 (.int .i64 0) 1 8 Try.underlying22 hi hz0 hz1 hz2 rfl (by decide) _ out.length (ints out) rfl HRA.out _ 1 1 _ rfl HW.out ?_ ?_ ?_ ?_ ?_)
        · intro h; cases h
        · unfold maxLen; omega
        · omega
        · have := HSZ.out; simp; omega
        · intro v' w' hown hgrow hlie
          have HO2 := Lib.hid hown
          have HG := Lib.hid hgrow
          clear hown hgrow hlie
          obtain ⟨ov2, cv2, rfl, _⟩ := row_form HO2.out
          go_wp2
          go_roundw
          case rel =>
            refine ⟨_, out ++ [(i : Int)], i + 1, rfl, by go_num, by omega, by simp; omega, ?_, ?_, ?_⟩
            · have := HO2.out; simpa [ints] using this
            · rw [HO.out]; simp [ofIdx]
            · exact ((HC.out.alloc _).alloc _).trans (Chg.of_grown HG.out) fun i hi h => by have := (row_block HRA.out h.symm).1; omega
          case measure => simp [intOf]; omega
      · have qq : (xc == c) = false := beq_eq_false_iff_ne.2 q
        have HQ := Lib.hid q
        clear q
        go_wp2
        go_roundw
        case rel => exact ⟨_, out, i + 1, rfl, by go_num, by omega, by omega, row_frame HR.out ((Chg.refl (fun _ => False) wr).alloc _) (fun _ _ => id), by rw [HO.out]; simp [ofIdx, HQ.out], HC.out.alloc _⟩
        case measure => simp [intOf]; omega
    · have hil2 : i = T.l.length := by omega
      subst hil2
      go_wp2
      go_ret
      refine ⟨_, rfl, ?_, HC.out⟩
      have := HO.out
      rw [List.drop_length] at this
      rw [this]
      simp only [ofIdx, List.append_nil]
      simpa using HR.out
end Go.Proofs.Ytkeoaeeneenkaaa
