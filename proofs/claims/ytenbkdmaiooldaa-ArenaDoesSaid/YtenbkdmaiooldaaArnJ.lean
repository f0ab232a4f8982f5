/- The law's world: contract of make. No condition. -/
import Derived.Test.YtenbkdmaiooldaaArnI
namespace Go.Proofs.Ytenbkdmaiooldaa
open Go.RowKit Go.Cl
set_option linter.unusedVariables false
set_option linter.unusedSimpArgs false
attribute [local go_sem] lt_add_one' blk_alloc_past blk_alloc_at blk_drew blk_setCell_ne

/-- The law's world in memory, with what else there is. -/
def StG (P Q : List Thing → Prop) (bs : Nat) (w : World) (X b n mp : Nat) (p q : Option (Nat × Nat)) (L : List Thing) : Prop :=
  ∃ m pg R qs f Lp Lq, P Lp ∧ Q Lq ∧ qs.length = mp ∧ 1 ≤ mp ∧ mp ≤ 4096 ∧ Go.Cl.Sep bs w (memT b m pg mp f :: refT bs n R qs f :: blkT X (wO b n p q) :: (Lp ++ (Lq ++ L)))
/-- The same where each pair is one another's answer. -/
abbrev St (bs : Nat) (w : World) (X b n mp : Nat) (p q : Option (Nat × Nat)) (L : List Thing) : Prop := StG (Pr mp b n p) (Pr mp b n q) bs w X b n mp p q L
theorem StG.mono {P Q P' Q' : List Thing → Prop} {bs : Nat} {w : World} {X b n mp : Nat} {p q : Option (Nat × Nat)} {L : List Thing} (h : StG P Q bs w X b n mp p q L) (hp : ∀ l, P l → P' l) (hq : ∀ l, Q l → Q' l) : StG P' Q' bs w X b n mp p q L := by
  obtain ⟨m, pg, R, qs, f, Lp, Lq, h1, h2, h3, h4, h5, h6⟩ := h
  exact ⟨m, pg, R, qs, f, Lp, Lq, hp _ h1, hq _ h2, h3, h4, h5, h6⟩
theorem StG.few {P Q : List Thing → Prop} {bs : Nat} {w : World} {X b n mp : Nat} {p q : Option (Nat × Nat)} {L : List Thing} (h : StG P Q bs w X b n mp p q L) : 1 ≤ mp ∧ mp ≤ 4096 := by
  obtain ⟨m, pg, R, qs, f, Lp, Lq, h1, h2, h3, h4, h5, h6⟩ := h
  exact ⟨h4, h5⟩
theorem StG.still {P Q : List Thing → Prop} {bs : Nat} {w w' : World} {X b n mp : Nat} {p q : Option (Nat × Nat)} {L : List Thing} (h : StG P Q bs w X b n mp p q L) (hc : Chg (fun _ => False) w w') : StG P Q bs w' X b n mp p q L := by
  obtain ⟨m, pg, R, qs, f, Lp, Lq, h1, h2, h3, h4, h5, h6⟩ := h
  exact ⟨m, pg, R, qs, f, Lp, Lq, h1, h2, h3, h4, h5, h6.frame hc⟩
/-- Two arenas, one another's answer, with all that is known of them. -/
def ArL (a r b n base pages t : Nat) (l : List Thing) : Prop := l = [blkT a (arO b base pages t false), blkT r (rarO n base pages t false)]
theorem ArL.pr {mp a r b n base pages t : Nat} {l : List Thing} (h : ArL a r b n base pages t l) (hok : PairOk mp base pages t) : Pr mp b n (some (a, r)) l := ⟨base, pages, t, false, hok, h⟩
theorem pair_new {mp base pages : Nat} (hmp : mp ≤ 4096) (hb0 : base < 4294967296) (hok : arenaOk mp base pages) : PairOk mp base pages 0 := by obtain ⟨k1, k2, k3, k4⟩ := hok; exact ⟨by omega, hb0, Nat.zero_le _, by omega, by omega⟩
theorem num_ok (w : World) (x : Int) : Calls Try.prog 25 #[.int .i64 x] w fun e w' => e = .returned (.int .i64 x) ∧ w = w' := by
  go_enter Try.func25, Try.ntmps25
  go_wp2
  go_ret
  exact ⟨rfl, rfl⟩

/-- No arena is made: nothing turns. -/
theorem make_bad {bs : Nat} {w : World} {X b n mp : Nat} {p q : Option (Nat × Nat)} {L : List Thing} (h : St bs w X b n mp p q L) {base : Nat} {pages : Int} (hb0 : base < 4294967296) (hp : -9223372036854775808 ≤ pages ∧ pages ≤ 9223372036854775807) (hok : ¬ arenaOk mp base pages) :
    Calls Try.prog 26 #[.pointer (some ⟨X, 0, none⟩), .int .u32 base, .int .i64 pages] w fun e w' => e = .returned (.bool true) ∧ w = w' := by
  obtain ⟨m, pg, R, qs, f, Lp, Lq, h1, h2, h3, h4, h5, h6⟩ := h
  have hm : MemIs w b m pg mp f := h6.all (memT b m pg mp f) (by simp)
  have hr : RefIs w bs n R qs f := h6.all (refT bs n R qs f) (by simp)
  have hx : blk w X = some (wO b n p q) := h6.all (blkT X (wO b n p q)) (by simp)
  have HN := Lib.hid (arn_new_bad hm (base := base) ⟨by omega, by omega⟩ hp hok)
  have HR := Lib.hid (raNew_bad hr hb0 hp (by rw [h3]; exact hok))
  have x0 := cell_of_blk hx 0
  have x1 := cell_of_blk hx 1
  have HM := Lib.hid (num_ok w 60)
  unfold ptrV at x0 HN
  clear h1 h2 h3 h4 h5 h6 hm hr hx hok hp
  go_enter Try.func26, Try.ntmps26
  go_wp2_with fail
  refine HN.out.mono ?_
  rintro e w1 ⟨rfl, rfl⟩
  go_wp2_with fail
  refine HR.out.mono ?_
  rintro e w1 ⟨rfl, rfl⟩
  go_wp2_with fail
  refine HM.out.mono ?_
  rintro e w1 ⟨rfl, rfl⟩
  go_wp2
  go_ret
  exact ⟨rfl, rfl⟩

set_option maxHeartbeats 2000000 in
set_option maxRecDepth 100000 in
/-- An arena is made: it is the newer one. -/
theorem make_ok {bs : Nat} {w : World} {X b n mp : Nat} {p q : Option (Nat × Nat)} {L : List Thing} (h : St bs w X b n mp p q L) (hbs : bs ≤ w.heap.size) {base pages : Nat} (hb0 : base < 4294967296) (hok : arenaOk mp base pages) :
    Calls Try.prog 26 #[.pointer (some ⟨X, 0, none⟩), .int .u32 base, .int .i64 pages] w fun e w' => e = .returned (.bool true) ∧ (∃ a r, StG (ArL a r b n base pages 0) (Pr mp b n p) bs w' X b n mp (some (a, r)) p L) ∧ Chg (fun i => bs ≤ i) w w' := by
  obtain ⟨m, pg, R, qs, f, Lp, Lq, h1, h2, h3, h4, h5, h6⟩ := h
  have hm : MemIs w b m pg mp f := h6.all (memT b m pg mp f) (by simp)
  have hr : RefIs w bs n R qs f := h6.all (refT bs n R qs f) (by simp)
  have hx : blk w X = some (wO b n p q) := h6.all (blkT X (wO b n p q)) (by simp)
  have hXb : bs ≤ X := h6.above (blkT X (wO b n p q)) (by simp) X rfl
  have HN := Lib.hid (arn_new_ok hm hb0 hok)
  have HR := Lib.hid (fun (wy : World) (hc : Chg (fun _ => False) w wy) => raNew_ok (hr.frame hc fun _ _ => id) hb0 (by rw [h3]; exact hok))
  have HX := Lib.hid hx
  have HXB := Lib.hid hXb
  have H6 := Lib.hid h6
  have H1 := Lib.hid h1
  have HMP := Lib.hid (And.intro h3 (And.intro h4 h5))
  have HM := Lib.hid (fun wy => num_ok wy 0)
  have HBS := Lib.hid hbs
  have x0 := cell_of_blk hx 0
  unfold ptrV at x0 HN
  clear h1 h2 h3 h4 h5 h6 hm hr hx hok hbs hXb
  go_enter Try.func26, Try.ntmps26
  go_wp2_with fail
  refine HN.out.mono ?_
  rintro e w1 ⟨a, rfl, ha, hA, hc1⟩
  have HA := Lib.hid hA
  have HC1 := Lib.hid hc1
  have HAL := Lib.hid ha
  have x1 := cell_of_blk (hc1.blk' HX.out id) 1
  have HR1 := Lib.hid (HR.out _ hc1)
  clear x0 hA hc1 ha
  go_wp2_with fail
  refine HR1.out.mono ?_
  rintro e w2 ⟨r, rfl, hrl, hR, hc2⟩
  have HRR := Lib.hid hR
  have HC2 := Lib.hid hc2
  have HRL := Lib.hid hrl
  have hx2 := Chg.blk' (HC1.out.trans hc2 fun _ _ => id) HX.out id
  have HX2 := Lib.hid hx2
  have s1 := (H6.out.pushAt (t' := blkT a (arO b base pages 0 false)) [_, _, _] HBS.out HC1.out HA.out (fun i hi => by
    have hi : i = a := hi
    rw [hi]; exact HAL.out))
  have s2 := (s1.pushAt (t' := blkT r (rarO n base pages 0 false)) [_, _, _, _] (Nat.le_trans HBS.out HC1.out.size) hc2 hR (fun i hi => by
    have hi : i = r := hi
    rw [hi]; exact hrl))
  have HS2 := Lib.hid s2
  have x2 := cell_of_blk hx2 2
  have x3 := cell_of_blk hx2 3
  have x4 := cell_of_blk hx2 4
  have x5 := cell_of_blk hx2 5
  have z2 := frozen_of_blk hx2 2
  have z3 := frozen_of_blk hx2 3
  have z4 := frozen_of_blk hx2 4
  have z5 := frozen_of_blk hx2 5
  have xl := blk_lt hx2
  unfold ptrO at x2 x3 x4 x5
  obtain ⟨pa, hpa⟩ : ∃ pa : Option Addr, pa = (p.map (·.1)).map fun a => ⟨a, 0, none⟩ := ⟨_, rfl⟩
  obtain ⟨pr, hpr⟩ : ∃ pr : Option Addr, pr = (p.map (·.2)).map fun a => ⟨a, 0, none⟩ := ⟨_, rfl⟩
  have HPA := Lib.hid (show ptrO (p.map (·.1)) = .pointer pa by rw [hpa]; rfl)
  have HPR := Lib.hid (show ptrO (p.map (·.2)) = .pointer pr by rw [hpr]; rfl)
  have X2' := Lib.hid (show w2.cell? ⟨X, 2, none⟩ = some (.pointer pa) by rw [hpa]; exact x2)
  have X3' := Lib.hid (show w2.cell? ⟨X, 3, none⟩ = some (.pointer pr) by rw [hpr]; exact x3)
  have X4' := Lib.hid (show ∃ qa, w2.cell? ⟨X, 4, none⟩ = some (.pointer qa) from ⟨_, x4⟩)
  have X5' := Lib.hid (show ∃ qr, w2.cell? ⟨X, 5, none⟩ = some (.pointer qr) from ⟨_, x5⟩)
  clear x1 x2 x3 x4 x5 hR hc2 hx2 s1 s2 hpa hpr hrl HR1
  have x2 := X2'.out
  have x3 := X3'.out
  obtain ⟨qa, x4⟩ := X4'.out
  obtain ⟨qr, x5⟩ := X5'.out
  go_wp2_with fail
  refine (HM.out _).mono ?_
  rintro e w3 ⟨rfl, rfl⟩
  go_wp2
  go_ret
  obtain ⟨w4, hw4⟩ : ∃ w4, w4 = (((w2.setCell ⟨X, 4, none⟩ (.pointer pa)).setCell ⟨X, 5, none⟩ (.pointer pr)).setCell ⟨X, 2, none⟩ (.pointer (some ⟨a, 0, none⟩))).setCell ⟨X, 3, none⟩ (.pointer (some ⟨r, 0, none⟩)) := ⟨_, rfl⟩
  have hc4 : Chg (fun i => i = X) w2 w4 := by rw [hw4]; exact ((((Chg.refl (fun i => i = X) w2).setCell (p := ⟨X, 4, none⟩) (fun _ => rfl) _).setCell (p := ⟨X, 5, none⟩) (fun _ => rfl) _).setCell (p := ⟨X, 2, none⟩) (fun _ => rfl) _).setCell (p := ⟨X, 3, none⟩) (fun _ => rfl) _
  have hx4 : blk w4 X = some (wO b n (some (a, r)) p) := by
    rw [hw4, blk_setCell_eq, blk_setCell_eq, blk_setCell_eq, blk_setCell_eq, HX2.out]
    unfold wO
    rw [HPA.out, HPR.out]
    simp [objSet, ptrO]
  have s4 := HS2.out.putAt (t' := blkT X (wO b n (some (a, r)) p)) [_, _] (Nat.le_trans HBS.out (HC1.out.trans HC2.out fun _ _ => id).size) hc4 (fun i _ hi => hi) hx4 (fun i hi => .inl hi)
  rw [← hw4]
  refine ⟨rfl, ⟨a, r, m, pg, R, qs, f, [blkT a (arO b base pages 0 false), blkT r (rarO n base pages 0 false)], Lp, rfl, H1.out, HMP.out.1, HMP.out.2.1, HMP.out.2.2, ?_⟩, ((HC1.out.trans HC2.out fun _ _ => id).mono fun (i : Nat) _ (h : False) => (show bs ≤ i from h.elim)).trans hc4 fun i _ hi => by rw [show i = X from hi]; exact HXB.out⟩
  exact s4.sub (((((((List.sublist_append_right Lq L).append_left Lp).cons_cons _).cons_cons _).cons_cons _).cons_cons _).cons_cons _)
end Go.Proofs.Ytenbkdmaiooldaa
