/- Ports: contracts of the laws' number, declared, known. No condition. -/
import Derived.Test.YtpilfelcikelhaaQueG
import Derived.Test.YtpilfelcikelhaaLibBytes
import Derived.Lib.SlBytesConst
namespace Go.Proofs.Ytpilfelcikelhaa
open Go.RowKit Go.Cl
set_option linter.unusedVariables false
set_option linter.unusedSimpArgs false
attribute [local go_sem] lt_add_one' blk_alloc_past blk_alloc_at blk_drew blk_setCell_ne

/-- The bytes of a number. -/
def numB (n : Int) : List Int := [n % 256, n.tdiv 256 % 256, n.tdiv 65536 % 256, 0]

theorem numB_byte (n : Int) : ∀ b ∈ numB n, 0 ≤ b ∧ b ≤ 255 := by
  intro b hb
  simp [numB] at hb
  rcases hb with rfl | rfl | rfl | rfl <;> omega

set_option maxRecDepth 100000 in
theorem number_ok (n : Int) (hn : I64 n) (w : World) : Calls Try.prog 15 #[.int .i64 n] w fun e w' => e = .returned (.slice (some ⟨w.heap.size, 0, none⟩) 4 4) ∧ w'.ownsRow w.heap.size 5 1 (.slice (some ⟨w.heap.size, 0, none⟩) 4 4) 4 (u8s (numB n)) ∧ Chg (fun _ => False) w w' := by
  obtain ⟨h1, h2⟩ := hn
  go_enter Try.func15, Try.ntmps15
  go_wp2
  go_ret
  refine ⟨rfl, ⟨rfl, .inr ⟨_, 4, _, rfl, Nat.le_refl _, blk_alloc_at _ _ _ rfl, Nat.le_refl _, by unfold maxLen; omega, rfl, rfl⟩⟩, (Chg.refl _ _).alloc _⟩

theorem declared_ok (d u : Int) (f : Bool) (hd : I64 d) (hu : I64 u) (w : World) : Calls Try.prog 10 #[.int .i64 d, .int .i64 u, .bool f] w fun e w' => e = .returned (QT.v ⟨3, 5, 8, 1 + pickI d 32, 1 + pickI u 16, f⟩) ∧ Chg (fun _ => False) w w' := by
  have p1 := pick_any d 32 hd (by omega) (by omega)
  have p2 := pick_any u 16 hu (by omega) (by omega)
  have b1 := pickI_bd d 32 (by omega)
  have b2 := pickI_bd u 16 (by omega)
  generalize pickI d 32 = x at *
  generalize pickI u 16 = y at *
  have P1 := Lib.hid p1
  have P2 := Lib.hid p2
  obtain ⟨b1, b1'⟩ := b1
  obtain ⟨b2, b2'⟩ := b2
  clear p1 p2
  unfold QT.v
  go_enter Try.func10, Try.ntmps10
  go_wp2_with fail
  refine (P1.out _).mono ?_
  rintro e w1 ⟨rfl, rfl⟩
  go_wp2_with fail
  refine (P2.out _).mono ?_
  rintro e w1 ⟨rfl, rfl⟩
  go_wp2
  refine bodyPost_ret (v := .agg #[.int .i64 3, .int .i64 5, .int .i64 8, .int .i64 (1 + x), .int .i64 (1 + y), .bool f]) (by simp [results, Try.results10, go_sem]) rfl ⟨rfl, (Chg.refl _ _).alloc _⟩

def kq : QT := ⟨1, 2, 8, 2, 1, true⟩
def d1 : List Int := [97, 98, 99, 100]
def d2 : List Int := [101, 102, 103, 104, 105, 106, 107, 108]
def s1 : PS := PS.zero.sent (d1, 5)
def s2 : PS := s1.sent (d2, 6)
def s3 : PS := s2.turned kq

theorem src_lit (w : World) (xs : List Int) (fr : Nat × Nat) : SrcIs (w.alloc (.cells (u8s xs).toArray 5 fr)) 1 (some ⟨w.heap.size, 0, none⟩) xs.length (u8s xs) :=
  SrcIs.some (by simp) (u8s_one _) (World.news_of_block (heap_alloc_new _ _))

set_option maxHeartbeats 1000000 in
set_option maxRecDepth 100000 in
theorem known_ok (w : World) : Calls Try.prog 7 #[] w fun e w' => e = .returned (.bool true) ∧ Chg (fun _ => False) w w' := by
  have hN := new_any kq w
  unfold NewPost at hN
  simp only [show kq.mayB = true by decide, if_true] at hN
  have HN := Lib.hid hN
  clear hN
  have kc := fun (w : World) (C : Array Value) (n c : Nat) => Lib.run_convert_bytes_const (P := Try.prog) w 37 5 C n c Try.underlying37 Try.underlying5
  go_enter Try.func7, Try.ntmps7
  go_wp2_with fail
  refine HN.out.mono ?_
  rintro e w1 ⟨b, rfl, hP, hb, hc⟩
  have P1 := Lib.hid (hP.frame0 ((Chg.refl (fun _ => False) w1).alloc (.cells #[.int .u8 97, .int .u8 98, .int .u8 99, .int .u8 100] 5 (4, 5))))
  have S1 := Lib.hid (src_lit w1 d1 (4, 5))
  have HC := Lib.hid hc
  have HB := Lib.hid hb
  clear hP hb hc
  unfold ptrV
  go_wp2_with fail
  refine (send_ok (who := 1) (t := 5) (xs := d1) P1.out S1.out (fun h => by cases h) (by decide) (by decide) (by decide)).mono ?_
  rintro e w2 ⟨rfl, sv1, hP2, hc2, hf2⟩
  have C2 := Lib.hid ((HC.out.alloc _).trans (S := fun _ => False) hc2 fun i hi h => by
    rcases h with rfl | h
    · have := HB.out; omega
    · cases h)
  have F2 := Lib.hid (fun i (hi : some i = sv1.ownBlock) => (show w.heap.size ≤ i by
    rcases hf2 i hi with h | h
    · cases h
    · have := HC.out.size
      simp at h
      omega))
  have P2 := Lib.hid (hP2.frame0 ((Chg.refl (fun _ => False) w2).alloc (.cells (u8s d2).toArray 5 (8, 9))))
  have S2 := Lib.hid (src_lit w2 d2 (8, 9))
  clear hP2 hc2 hf2 S1 P1 HC
  go_wp2_with fail
  refine (send_ok (who := 1) (t := 6) (xs := d2) P2.out S2.out (fun h => by cases h) (by decide) (by decide) (by decide)).mono ?_
  rintro e w3 ⟨rfl, sv2, hP3, hc3, hf3⟩
  have C3 := Lib.hid ((C2.out.alloc _).trans (S := fun _ => False) hc3 fun i hi h => by
    rcases h with rfl | h
    · have := HB.out; have := C2.out.size; omega
    · have := F2.out i h; omega)
  have F3 := Lib.hid (fun i (hi : some i = sv2.ownBlock) => (show w.heap.size ≤ i by
    rcases hf3 i hi with h | h
    · exact F2.out i h
    · have := C2.out.size
      simp at h
      omega))
  have P3 := Lib.hid hP3
  clear hP3 hc3 hf3 S2 P2 F2 C2
  go_wp2_with fail
  refine (send_bad (who := 1) (t := 7) (n := 0) P3.out (by decide)).mono ?_
  rintro e w4 ⟨rfl, hc4⟩
  have P4 := Lib.hid (P3.out.frame0 hc4)
  have C4 := Lib.hid (C3.out.trans hc4 fun _ _ => id)
  clear hc4 P3 C3
  have e173 : sendE kq (PS.sent (PS.sent PS.zero (d1, 5)) (d2, 6)) 1 0 = 173 := by decide
  go_wp2_with fail
  refine (turn_ok P4.out).mono ?_
  rintro e w5 ⟨qv, rfl, hP5, hc5, hf5⟩
  rw [show ((lens (List.take (joins kq ((PS.zero.sent (d1, 5)).sent (d2, 6))) ((PS.zero.sent (d1, 5)).sent (d2, 6)).ss) : Nat) : Int) = 12 by decide]
  have e5 : PS.turned kq ((PS.zero.sent (d1, 5)).sent (d2, 6)) = ⟨2, 0, 0, [(d1, 5), (d2, 6)], []⟩ := by
    show PS.mk _ _ _ _ _ = _
    rfl
  rw [e5] at hP5
  have C5 := Lib.hid (C4.out.trans (S := fun _ => False) hc5 fun i hi h => by
    rcases h with rfl | h
    · have := HB.out; omega
    · cases h)
  have P5 := Lib.hid hP5
  have F5 := Lib.hid (fun i (hi : some i = qv.ownBlock) => (show w.heap.size ≤ i by
    rcases hf5 i hi with h | h
    · cases h
    · have := C4.out.size; omega))
  clear hP5 hc5 hf5 P4 C4 F3 e173 e5
  go_wp2_with fail
  refine (recv_ok P5.out (m := (d1, 5)) (r := [(d2, 6)]) rfl).mono ?_
  rintro e w6 ⟨v, qv', rfl, hP6, hv, hc6, hf6⟩
  obtain ⟨oa, c, rfl, hsv, _⟩ := src_of_row hv (u8s_one _)
  have hcv := conv_src (P := Try.prog) Try.underlying37 Try.underlying5 Try.underlying9 hsv c
  rw [show strOfNums d1 = ⟨#[97, 98, 99, 100]⟩ by rfl] at hcv
  have C6 := Lib.hid (C5.out.trans (S := fun _ => False) hc6 fun i hi h => by
    rcases h with rfl | h
    · have := HB.out; omega
    · have := F5.out i h; omega)
  clear hP6 hv hc6 hf6 hsv
  go_wp2
  go_ret
  exact ⟨rfl, C6.out⟩

theorem q_of (a b c d e : Int) (f : Bool) : QT.v ⟨a, b, c, d, e, f⟩ = .agg #[.int .i64 a, .int .i64 b, .int .i64 c, .int .i64 d, .int .i64 e, .bool f] := rfl

set_option maxHeartbeats 1000000 in
set_option maxRecDepth 100000 in
theorem makes_walk (q : QT) (w : World) : Calls Try.prog 3 #[q.v] w fun e w' => e = .returned (.bool true) ∧ Chg (fun _ => False) w w' := by
  have HN := Lib.hid (new_any q)
  have HR := Lib.hid (rnew_any q)
  have HK := Lib.hid known_ok
  unfold QT.v at *
  have hc1 : Chg (fun _ => False) w (w.alloc (.cells #[.int .i64 q.writer, .int .i64 q.reader, .int .i64 q.size, .int .i64 q.depth, .int .i64 q.quota, .bool q.flow] 23 (0, 0))) := (Chg.refl _ _).alloc _
  have hb1 := blk_alloc_at w (.cells #[.int .i64 q.writer, .int .i64 q.reader, .int .i64 q.size, .int .i64 q.depth, .int .i64 q.quota, .bool q.flow] 23 (0, 0)) _ rfl
  have HC1 := Lib.hid hc1
  have HB1 := Lib.hid hb1
  clear hc1 hb1
  go_enter Try.func3, Try.ntmps3
  go_wp2_with fail
  refine (HK.out _).mono ?_
  rintro e w1 ⟨rfl, hc⟩
  have hb2 := hc.blk' HB1.out id
  have g0 := cell_of_blk hb2 0
  have g1 := cell_of_blk hb2 1
  have g2 := cell_of_blk hb2 2
  have g3 := cell_of_blk hb2 3
  have g4 := cell_of_blk hb2 4
  have g5 := cell_of_blk hb2 5
  have HB2 := Lib.hid hb2
  have C2 := Lib.hid (HC1.out.trans hc fun _ _ => id)
  clear hc hb2
  go_wp2_with fail
  refine (HN.out _).mono ?_
  intro e w2 hN
  unfold NewPost at hN
  cases hm : q.mayB with
  | true =>
    rw [if_pos hm] at hN
    obtain ⟨b, rfl, _, hb, hc⟩ := hN
    have hb3 := hc.blk' HB2.out id
    have k0 := cell_of_blk hb3 0
    have k1 := cell_of_blk hb3 1
    have k2 := cell_of_blk hb3 2
    have k3 := cell_of_blk hb3 3
    have k4 := cell_of_blk hb3 4
    have k5 := cell_of_blk hb3 5
    have C3 := Lib.hid (C2.out.trans hc fun _ _ => id)
    clear hc hb3 hb
    unfold ptrV
    go_wp2_with fail
    refine (HR.out _).mono ?_
    intro e w4 hN
    unfold rNewPost at hN
    rw [if_pos hm] at hN
    obtain ⟨b', rfl, _, hb, hc⟩ := hN
    have C4 := Lib.hid (C3.out.trans hc fun _ _ => id)
    clear hc hb
    go_wp2
    go_ret
    exact ⟨rfl, C4.out⟩
  | false =>
    rw [if_neg (by simp [hm])] at hN
    obtain ⟨rfl, hc⟩ := hN
    have hb3 := hc.blk' HB2.out id
    have k0 := cell_of_blk hb3 0
    have k1 := cell_of_blk hb3 1
    have k2 := cell_of_blk hb3 2
    have k3 := cell_of_blk hb3 3
    have k4 := cell_of_blk hb3 4
    have k5 := cell_of_blk hb3 5
    have C3 := Lib.hid (C2.out.trans hc fun _ _ => id)
    clear hc hb3
    go_wp2_with fail
    refine (HR.out _).mono ?_
    intro e w4 hN
    unfold rNewPost at hN
    rw [if_neg (by simp [hm])] at hN
    obtain ⟨rfl, hc⟩ := hN
    have C4 := Lib.hid (C3.out.trans hc fun _ _ => id)
    clear hc
    go_wp2
    go_ret
    exact ⟨rfl, C4.out⟩
end Go.Proofs.Ytpilfelcikelhaa
