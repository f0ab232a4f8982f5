/- The law's world: contract of told. No condition. -/
import Derived.Test.YtenbkdmaiooldaaArnH
namespace Go.Proofs.Ytenbkdmaiooldaa
open Go.RowKit Go.Cl
set_option linter.unusedVariables false
set_option linter.unusedSimpArgs false
attribute [local go_sem] lt_add_one' blk_alloc_past blk_alloc_at blk_drew blk_setCell_ne

/-- A pointer is itself. -/
theorem ptr_eqIn (d b : Nat) (w : World) : (Op.equalIn (d + 1) 24 (.pointer (some ⟨b, 0, none⟩)) (.pointer (some ⟨b, 0, none⟩))).run Try.prog w = .ok true w := by
  simp [Op.equalIn, run_underlying Try.underlying24, sameAddr]
theorem ptr_eq0 (b : Nat) (w : World) : (Op.equal 24 (.pointer (some ⟨b, 0, none⟩)) (.pointer (some ⟨b, 0, none⟩))).run Try.prog w = .ok true w := ptr_eqIn 9999 b w
theorem ptr_eq (b : Nat) (w : World) : (binOp .eql 24 (.pointer (some ⟨b, 0, none⟩)) (.pointer (some ⟨b, 0, none⟩))).run Try.prog w = .ok (.bool true) w := by
  simp only [binOp]
  simp [ptr_eq0 b w]

set_option maxHeartbeats 2000000 in
set_option maxRecDepth 100000 in
theorem told_ok {w : World} {X b n a r base pages taken mp : Nat} {sealed : Bool} {q : Option (Nat × Nat)} (hx : blk w X = some (wO b n (some (a, r)) q)) (ha : blk w a = some (arO b base pages taken sealed)) (hr : blk w r = some (rarO n base pages taken sealed)) (hok : PairOk mp base pages taken) {addr : Nat} (hat : addr < 4294967296) :
    Calls Try.prog 28 #[.pointer (some ⟨X, 0, none⟩), .int .u32 addr] w fun e w' => e = .returned (.bool true) ∧ Chg (fun _ => False) w w' := by
  obtain ⟨o1, o2, o3, o4, o5⟩ := hok
  have HX := Lib.hid hx
  have HA := Lib.hid (show ArnIs w a b base pages taken sealed from ha)
  have HR := Lib.hid (show RArnIs w r n base pages taken sealed from hr)
  obtain ⟨lf, hlf⟩ : ∃ lf : Int, lf = (pages : Int) - taken := ⟨_, rfl⟩
  obtain ⟨hd, hhd⟩ : ∃ hd : Bool, hd = decide (base ≤ addr ∧ addr < base + pages * 4096) := ⟨_, rfl⟩
  have L1 := Lib.hid (fun (wy : World) (h : Chg (fun _ => False) w wy) => (show Calls Try.prog 22 #[.pointer (some ⟨a, 0, none⟩)] wy fun e w' => e = .returned (.int .i64 lf) ∧ Chg (fun _ => False) wy w' by rw [hlf]; exact arn_left (HA.out.frame h id) o3 o4))
  have L2 := Lib.hid (fun (wy : World) (h : Chg (fun _ => False) w wy) => arn_taken (HA.out.frame h id))
  have L3 := Lib.hid (fun (wy : World) (h : Chg (fun _ => False) w wy) => arn_sealed (HA.out.frame h id))
  have L4 := Lib.hid (fun (wy : World) (h : Chg (fun _ => False) w wy) => (show Calls Try.prog 23 #[.pointer (some ⟨a, 0, none⟩), .int .u32 addr] wy fun e w' => e = .returned (.bool hd) ∧ Chg (fun _ => False) wy w' by rw [hhd]; exact arn_holds (HA.out.frame h id) o2 o4 hat))
  have L5 := Lib.hid (fun (wy : World) (h : Chg (fun _ => False) w wy) => arn_memory (HA.out.frame h id))
  have L6 := Lib.hid (fun (wy : World) (h : Chg (fun _ => False) w wy) => (show Calls Try.prog 56 #[.pointer (some ⟨r, 0, none⟩)] wy fun e w' => e = .returned (.int .i64 lf) ∧ Chg (fun _ => False) wy w' by rw [hlf]; exact raLeft_ok (HR.out.frame h id) o3 o4))
  have L7 := Lib.hid (fun (wy : World) (h : Chg (fun _ => False) w wy) => (show Calls Try.prog 57 #[.pointer (some ⟨r, 0, none⟩), .int .u32 addr] wy fun e w' => e = .returned (.bool hd) ∧ wy = w' by rw [hhd]; exact raHolds_ok (HR.out.frame h id) o2 o1 o4 hat))
  have b1 : (lf == lf) = true := by simp
  have b2 : ((taken : Int) == (taken : Int)) = true := by simp
  have b3 : (sealed == sealed) = true := by simp
  have b4 : (hd == hd) = true := by simp
  have KX := Lib.hid (fun (wy : World) (h : Chg (fun _ => False) w wy) => h.blk' HX.out id)
  have KR := Lib.hid (fun (wy : World) (h : Chg (fun _ => False) w wy) => h.blk' HR.out id)
  clear hx ha hr o1 o2 o3 o4 o5 hlf hhd hat
  have x2 := cell_of_blk HX.out 2
  unfold ptrO at x2
  go_enter Try.func28, Try.ntmps28
  go_wp2_with fail
  refine (L1.out _ (Chg.refl _ _)).mono ?_
  rintro e w1 ⟨rfl, hc1⟩
  have HC1 := Lib.hid hc1
  clear x2 hc1
  have x2 := cell_of_blk (KX.out _ HC1.out) 2
  unfold ptrO at x2
  go_wp2_with fail
  refine (L2.out _ HC1.out).mono ?_
  rintro e w2 ⟨rfl, rfl⟩
  go_wp2_with fail
  refine (L3.out _ HC1.out).mono ?_
  rintro e w2 ⟨rfl, rfl⟩
  go_wp2_with fail
  refine (L4.out _ HC1.out).mono ?_
  rintro e w2 ⟨rfl, hc2⟩
  have HC2 := Lib.hid (HC1.out.trans hc2 fun _ _ => id)
  clear x2 hc2
  have x2 := cell_of_blk (KX.out _ HC2.out) 2
  unfold ptrO at x2
  go_wp2_with fail
  refine (L5.out _ HC2.out).mono ?_
  rintro e w3 ⟨rfl, rfl⟩
  have x3 := cell_of_blk (KX.out _ HC2.out) 3
  unfold ptrO at x3
  clear x2
  unfold ptrV
  go_wp2_with fail
  refine (L6.out _ HC2.out).mono ?_
  rintro e w4 ⟨rfl, hc4⟩
  have HC4 := Lib.hid (HC2.out.trans hc4 fun _ _ => id)
  clear x3 hc4
  have x0 := cell_of_blk (KX.out _ HC4.out) 0
  have x3 := cell_of_blk (KX.out _ HC4.out) 3
  unfold ptrO at x3
  unfold ptrV at x0
  have r3 := cell_of_blk (KR.out _ HC4.out) 3
  have r4 := cell_of_blk (KR.out _ HC4.out) 4
  have pe := ptr_eq b w4
  go_wp2_with fail
  refine (L7.out _ HC4.out).mono ?_
  rintro e w5 ⟨rfl, rfl⟩
  go_wp2
  go_ret
  exact ⟨rfl, HC4.out⟩
end Go.Proofs.Ytenbkdmaiooldaa
