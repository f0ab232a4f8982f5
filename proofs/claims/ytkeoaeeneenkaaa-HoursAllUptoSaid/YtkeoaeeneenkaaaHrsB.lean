/- Hours: sort.Search as begun calls it; begun, At, Next. No condition. -/
import Derived.Test.YtkeoaeeneenkaaaHrsA
namespace Go.Proofs.Ytkeoaeeneenkaaa
open Go.RowKit Go.Cl
set_option linter.unusedVariables false
set_option linter.unusedSimpArgs false
attribute [local go_sem] lt_add_one' blk_alloc_past blk_alloc_at blk_drew blk_setCell_ne

/-- Where a row of answers turns from no to yes. -/
def Turns (p : Nat → Bool) (n r : Nat) : Prop := r ≤ n ∧ (∀ m, m < r → p m = false) ∧ (∀ m, r ≤ m → m < n → p m = true)

def SearchPost (p : Nat → Bool) (n : Nat) (w : World) (e : Ending) (w' : World) : Prop := ∃ r : Nat, Turns p n r ∧ e = .returned (.int .i64 r) ∧ Chg (fun _ => False) w w'

theorem search_ok (n : Nat) (hn : n ≤ 32) (p : Nat → Bool) (cb : Array Value) (w : World) (hmono : ∀ a b, a ≤ b → b < n → p a = true → p b = true)
    (hf : ∀ wy, Chg (fun _ => False) w wy → ∀ i : Int, 0 ≤ i → i < n → Calls Try.prog 36 (#[.int .i64 i] ++ cb) wy fun e w' => e = .returned (.bool (p i.toNat)) ∧ Chg (fun _ => False) wy w') :
    Calls Try.prog 35 #[.int .i64 n, .func (.func 36) #[] cb] w (SearchPost p n w) := by
  have eg : ∀ args w, (callFunc 36 args).run Try.prog w = .ok (.enter 36 args) w := fun _ _ => rfl
  have HF := Lib.hid hf
  have HM := Lib.hid hmono
  clear hf hmono
  go_enter Try.func35, Try.ntmps35
  go_wp2
  go_loopw [5, 6] (fun s5 s6 wr => ∃ (lo hi : Nat), s5 = .int .i64 lo ∧ s6 = .int .i64 hi ∧ lo ≤ hi ∧ hi ≤ n ∧ (∀ m, m < lo → p m = false) ∧ (∀ m, hi ≤ m → m < n → p m = true) ∧ Chg (fun _ => False) w wr) (fun s5 s6 _ => (intOf s6).toNat - (intOf s5).toNat)
  case atStart => exact ⟨0, n, rfl, rfl, by omega, by omega, by intro m h; omega, by intro m h1 h2; omega, Chg.refl _ _⟩
  case round =>
    obtain ⟨lo, hi, rfl, rfl, h1, h2, h3, h4, h5⟩ := hrel
    have H3 := Lib.hid h3
    have H4 := Lib.hid h4
    have H5 := Lib.hid h5
    clear h3 h4 h5
    by_cases hlt : lo < hi
    · go_wp2_with (fail)
      refine (HF.out _ H5.out _ (by omega) (by omega)).mono ?_
      rintro e w2 ⟨rfl, hc⟩
      have H6 := Lib.hid (H5.out.trans hc fun _ _ => id)
      clear hc
      have hmid : ((lo : Int) + hi) / 2 = ((lo + hi) / 2 : Nat) := by omega
      have hmt : (((lo : Int) + hi) / 2).toNat = (lo + hi) / 2 := by omega
      rw [hmt, hmid]
      have ha : lo ≤ (lo + hi) / 2 := by omega
      have hb : (lo + hi) / 2 < hi := by omega
      clear hmid hmt
      generalize (lo + hi) / 2 = mid at *
      cases hp : p mid with
      | true =>
        have HP := Lib.hid hp
        clear hp
        go_wp2
        go_roundw
        case rel => exact ⟨lo, mid, rfl, rfl, by omega, by omega, H3.out, fun m h h' => HM.out mid m h h' HP.out, H6.out⟩
        case measure => simp [intOf]; omega
      | false =>
        have HP := Lib.hid hp
        clear hp
        go_wp2
        go_roundw
        case rel => exact ⟨mid + 1, hi, by go_num, rfl, by omega, by omega, (fun m h => by
          cases hm : p m with
          | false => rfl
          | true => have := HM.out m mid (by omega) (by omega) hm; rw [HP.out] at this; cases this), H4.out, H6.out⟩
        case measure => simp [intOf]; omega
    · have he : lo = hi := by omega
      subst he
      go_wp2
      go_ret
      exact ⟨lo, ⟨h2, H3.out, H4.out⟩, rfl, H5.out⟩

/-! ### how many windows have begun -/
def Tab.cnt (T : Tab) (t : Int) : Nat := T.l.countP fun x => decide (x.s ≤ t)

theorem countP_turn (f : Win → Bool) : ∀ (l : List Win) (r : Nat), r ≤ l.length → (∀ m x, m < r → l[m]? = some x → f x = true) → (∀ m x, r ≤ m → l[m]? = some x → f x = false) → l.countP f = r
  | [], r, h, _, _ => by simp at h; simp [h]
  | y :: l, 0, h, h1, h2 => by
    rw [List.countP_eq_zero]
    intro x hx
    obtain ⟨m, hm⟩ := List.mem_iff_getElem?.1 hx
    simp [h2 m x (by omega) hm]
  | y :: l, r + 1, h, h1, h2 => by
    rw [List.countP_cons_of_pos (h1 0 y (by omega) rfl), countP_turn f l r (by simpa using h) (fun m x hm hx => h1 (m + 1) x (by omega) hx) (fun m x hm hx => h2 (m + 1) x (by omega) hx)]

theorem Tab.Ok.mono {T : Tab} (h : T.Ok) {i j : Nat} {x y : Win} (hi : T.l[i]? = some x) (hj : T.l[j]? = some y) (hij : i < j) : x.s + x.n ≤ y.s := by
  obtain ⟨h1, e1⟩ := List.getElem?_eq_some_iff.1 hi
  obtain ⟨h2, e2⟩ := List.getElem?_eq_some_iff.1 hj
  have := List.pairwise_iff_getElem.1 h.sorted i j h1 h2 hij
  rw [e1, e2] at this
  exact this

theorem Tab.Ok.at {T : Tab} (h : T.Ok) {i : Nat} (hi : i < T.l.length) : ∃ x, T.l[i]? = some x ∧ 1 ≤ x.c ∧ x.c ≤ 8 ∧ 1 ≤ x.n ∧ 0 ≤ x.s ∧ x.s + x.n ≤ T.major :=
  ⟨_, List.getElem?_eq_getElem hi, h.each _ (List.getElem_mem hi)⟩

def Tab.over (T : Tab) (t : Int) (i : Nat) : Bool := decide (t < (T.win i).s)

theorem Tab.Ok.wini {T : Tab} (h : T.Ok) {i : Nat} (hi : i < T.l.length) : T.l[i]? = some (T.win i) := by
  have := (h.win (k := (i : Int)) (by omega)).1
  rw [show ((i : Int) % T.n).toNat = i by rw [Int.emod_eq_of_lt (by omega) (by unfold Tab.n; omega)]; omega] at this
  exact this

theorem Tab.Ok.over_mono {T : Tab} (h : T.Ok) (t : Int) (a b : Nat) (hab : a ≤ b) (hb : b < T.l.length) (ha : T.over t a = true) : T.over t b = true := by
  rcases Nat.lt_or_ge a b with hlt | hge
  · have h1 := h.mono (h.wini (by omega)) (h.wini hb) hlt
    have h2 := h.each _ (h.win (k := (a : Int)) (by omega)).2
    simp only [Tab.over, decide_eq_true_eq] at ha ⊢
    omega
  · obtain rfl : a = b := by omega
    exact ha

theorem Tab.Ok.cnt_eq {T : Tab} (h : T.Ok) {t : Int} {r : Nat} (hr : Turns (T.over t) T.l.length r) : T.cnt t = r := by
  obtain ⟨h1, h2, h3⟩ := hr
  refine countP_turn _ _ _ h1 (fun m x hm hx => ?_) (fun m x hm hx => ?_)
  · have hl := (List.getElem?_eq_some_iff.1 hx).1
    have := h2 m hm
    rw [h.wini hl] at hx
    cases hx
    simp only [Tab.over, decide_eq_false_iff_not] at this
    simp; omega
  · have hl := (List.getElem?_eq_some_iff.1 hx).1
    have := h3 m hm hl
    rw [h.wini hl] at hx
    cases hx
    simp only [Tab.over, decide_eq_true_eq] at this
    simp; omega

/-- Windows are as many at most as a frame has ticks. -/
theorem Tab.Ok.n_le {T : Tab} (h : T.Ok) : T.n ≤ T.major := by
  have key : ∀ i : Nat, i < T.l.length → (i : Int) ≤ (T.win i).s := by
    intro i
    induction i with
    | zero => intro hi; have := h.each _ (h.win (k := ((0 : Nat) : Int)) (by omega)).2; omega
    | succ i ih =>
      intro hi
      have a := ih (by omega)
      have b := h.mono (h.wini (by omega)) (h.wini hi) (Nat.lt_succ_self i)
      have c := h.each _ (h.win (k := ((i : Nat) : Int)) (by omega)).2
      push_cast at *
      omega
  have n1 := h.n1
  have a := key (T.l.length - 1) (by omega)
  have c := h.each _ (h.win (k := ((T.l.length - 1 : Nat) : Int)) (by omega)).2
  unfold Tab.n
  omega

theorem begun1_ok {w : World} {b : Nat} {sv : Value} {T : Tab} (h : HourIs w b sv T) {t : Int} {x y : Nat} (hx : w.cell? ⟨x, 0, none⟩ = some (ptrV b)) (hy : w.cell? ⟨y, 0, none⟩ = some (.int .u64 t)) (i : Int) (i0 : 0 ≤ i) (i1 : i < T.l.length) :
    Calls Try.prog 36 (#[.int .i64 i] ++ #[ptrV x, ptrV y]) w fun e w' => e = .returned (.bool (T.over t i.toNat)) ∧ Chg (fun _ => False) w w' := by
  obtain ⟨k, rfl⟩ := Int.eq_ofNat_of_zero_le i0
  have hk : k < T.l.length := by omega
  obtain ⟨hb, c0, c1, g, cap, rfl, hg, h1, h2, hat⟩ := h.facts
  obtain ⟨d0, d1, d2⟩ := hat k _ (h.ok.wini hk)
  have n2 := h.ok.n2
  have e1 : T.over t k = decide (t < (T.win k).s) := rfl
  rw [Int.toNat_natCast, e1]
  obtain ⟨z, hz⟩ : ∃ z, z = T.win k := ⟨_, rfl⟩
  rw [← hz] at d0 d1 d2 ⊢
  clear hz hat h e1
  simp only [List.append_toArray, List.cons_append, List.nil_append]
  unfold ptrV at *
  go_enter Try.func36, Try.ntmps36
  go_wp2
  go_quiet (fail)
  go_wp2
  go_ret
  exact ⟨rfl, Chg.drewN _ _⟩

/-- A tick, at the last one at most. -/
def capT (t : Int) : Int := min t 9223372036854775807
def Tab.beg (T : Tab) (t : Int) : Int := capT t / T.major * T.n + T.cnt (capT t % T.major)

theorem Tab.Ok.cnt_le {T : Tab} (h : T.Ok) (t : Int) : (T.cnt t : Int) ≤ T.n := by
  have := List.countP_le_length (p := fun x : Win => decide (x.s ≤ t)) (l := T.l)
  unfold Tab.cnt Tab.n
  omega

theorem Tab.Ok.beg_le {T : Tab} (h : T.Ok) {t : Int} (ht : 0 ≤ t) : 0 ≤ T.beg t ∧ T.beg t ≤ 9223372036854775807 + 32 ∧ capT t / T.major * T.n ≤ 9223372036854775807 ∧ 0 ≤ capT t / T.major * T.n := by
  have hc : 0 ≤ capT t ∧ capT t ≤ 9223372036854775807 := by unfold capT; omega
  have h0 : 0 ≤ capT t / T.major := Int.ediv_nonneg hc.1 (by have := h.m1; omega)
  have h1 : capT t / T.major * T.n ≤ capT t / T.major * T.major := Int.mul_le_mul_of_nonneg_left h.n_le h0
  have h2 : capT t / T.major * T.major ≤ capT t := Int.ediv_mul_le _ (by have := h.m1; omega)
  have h3 : 0 ≤ capT t / T.major * T.n := Int.mul_nonneg h0 (by unfold Tab.n; omega)
  have h4 := h.cnt_le (capT t % T.major)
  have h5 : T.n ≤ 32 := by have := h.n2; unfold Tab.n; omega
  unfold Tab.beg
  omega

theorem begun_ok {w : World} {b : Nat} {sv : Value} {T : Tab} (h : HourIs w b sv T) (t : Int) (ht : U64 t) : Calls Try.prog 26 #[ptrV b, .int .u64 t] w fun e w' => e = .returned (.int .u64 (T.beg t)) ∧ Chg (fun _ => False) w w' := by
  have N := Lib.hid (fun (wy : World) (hy : Chg (fun _ => False) w wy) => n_ok (h.frame0 hy))
  have B := Lib.hid (fun (wy : World) (hy : Chg (fun _ => False) w wy) (t : Int) (x y : Nat) hx hy' (i : Int) i0 i1 => begun1_ok (h.frame0 hy) (t := t) (x := x) (y := y) hx hy' i i0 i1)
  obtain ⟨hb, c0, c1, g, cap, rfl, hg, h1, h2, hat⟩ := h.facts
  have bl := h.ok.beg_le ht.1
  have n2 := h.ok.n2
  have m1 := h.ok.m1
  have MO := Lib.hid (fun t => h.ok.over_mono t)
  have CE := Lib.hid (fun (t : Int) (r : Nat) (hr : Turns (T.over t) T.l.length r) => h.ok.cnt_eq hr)
  have hc : 0 ≤ capT t ∧ capT t ≤ 9223372036854775807 := by unfold capT; have := ht.1; omega
  have hct : (if 9223372036854775807 < t then 9223372036854775807 else t) = capT t := by unfold capT; split <;> omega
  have HB := Lib.hid (show T.beg t = capT t / T.major * T.n + T.cnt (capT t % T.major) from rfl)
  have cl := h.ok.cnt_le (capT t % T.major)
  generalize capT t = ct at *
  obtain ⟨hc0, hc1⟩ := hc
  have HCT := Lib.hid hct
  clear hct hat h
  unfold ptrV at *
  go_enter Try.func26, Try.ntmps26
  go_upto_region 2 with (fail)
  rw [HCT.out]
  go_upto_region 3 with (fail)
  have d0 := c0
  have HC := Lib.hid (((Chg.refl (fun _ => False) w).alloc (.cells #[.pointer (some ⟨b, 0, none⟩)] 24 (0, 0))).alloc (.cells #[.int .u64 (ct % T.major)] 23 (0, 0)))
  have x0 : ((w.alloc (.cells #[.pointer (some ⟨b, 0, none⟩)] 24 (0, 0))).alloc (.cells #[.int .u64 (ct % T.major)] 23 (0, 0))).cell? ⟨w.heap.size, 0, none⟩ = some (.pointer (some ⟨b, 0, none⟩)) := by simp
  have y0 : ((w.alloc (.cells #[.pointer (some ⟨b, 0, none⟩)] 24 (0, 0))).alloc (.cells #[.int .u64 (ct % T.major)] 23 (0, 0))).cell? ⟨w.heap.size + 1, 0, none⟩ = some (.int .u64 (ct % T.major)) := by simp
  have X0 := Lib.hid x0
  have Y0 := Lib.hid y0
  clear x0 y0
  go_wp2_with (fail)
  refine (search_ok T.l.length n2 (T.over (ct % T.major)) _ _ (MO.out _) (fun wy hy i i0 i1 => B.out wy (HC.out.trans hy fun _ _ => id) _ _ _ (cell_frame hy (fun _ _ => id) X0.out) (cell_frame hy (fun _ _ => id) Y0.out) i i0 i1)).mono ?_
  rintro e w3 ⟨r, hr, rfl, hc3⟩
  have hre := CE.out _ _ hr
  subst hre
  have x3 := cell_frame hc3 (fun _ _ => id) X0.out
  have HC3 := Lib.hid (HC.out.trans hc3 fun _ _ => id)
  have f3 := cell_frame HC3.out (fun _ _ => id) c0
  clear hr hc3 d0 c0 c1 MO CE B X0 Y0 HC
  have q0 : 0 ≤ ct / T.major := Int.ediv_nonneg hc0 (by omega)
  have q1 : ct / T.major ≤ ct := Int.ediv_le_self _ hc0
  obtain ⟨q, hq⟩ : ∃ q, q = ct / T.major := ⟨_, rfl⟩
  have e2 : ct.tdiv T.major = q := by rw [Int.tdiv_eq_ediv_of_nonneg hc0]; exact hq.symm
  rw [← hq] at bl HB q0 q1
  have e6 : IntKind.u64.wrap q = q := by rw [IntKind.wrap_u64]; omega
  obtain ⟨p, hp⟩ : ∃ p, p = q * T.n := ⟨_, rfl⟩
  rw [← hp] at bl HB
  generalize T.cnt (ct % T.major) = r at *
  have e3 : IntKind.u64.wrap (q * T.n) = p := by rw [← hp]; rw [IntKind.wrap_u64]; omega
  have hr32 : r ≤ 32 := by have := cl; unfold Tab.n at this; omega
  have e4 : IntKind.u64.wrap (p + r) = p + r := by rw [IntKind.wrap_u64]; omega
  have e5 : IntKind.u64.wrap ((r : Nat) : Int) = r := by rw [IntKind.wrap_u64]; omega
  have hm0 : ¬ (T.major = 0) := by omega
  clear hq hp bl
  go_wp2
  go_quiet ((first | (go_at_call 23; exact Calls.quiet_of_same ((N.out _ (HC3.out.trans (Chg.drewN _ _) fun _ _ => id)).mono fun _ _ h => ⟨h.1, h.2.symm⟩))))
  go_wp2
  go_ret
  exact ⟨by rw [HB.out]; simp [e6, e3, e4], HC3.out.trans (Chg.drewN _ _) fun _ _ => id⟩

/-- The window that a tick is in, or the last that began. -/
def Tab.at1 (T : Tab) (t : Int) : Int := if T.beg t = 0 then 0 else T.beg t - 1
def Tab.at2 (T : Tab) (t : Int) : Bool := if T.beg t = 0 then false else decide (IntKind.u64.wrap (capT t - T.sta (T.beg t - 1)) < (T.win (T.beg t - 1)).n)
def Tab.nxt (T : Tab) (t : Int) : Int := if t = 0 then 0 else T.beg (capT t - 1)

theorem at_ok {w : World} {b : Nat} {sv : Value} {T : Tab} (h : HourIs w b sv T) (t : Int) (ht : U64 t) : Calls Try.prog 9 #[ptrV b, .int .u64 t] w fun e w' => e = .returned (.tuple #[.int .u64 (T.at1 t), .bool (T.at2 t)]) ∧ Chg (fun _ => False) w w' := by
  have hc : 0 ≤ capT t ∧ capT t ≤ 9223372036854775807 := by unfold capT; have := ht.1; omega
  have hcc : capT (capT t) = capT t := by unfold capT; omega
  have hbc : T.beg (capT t) = T.beg t := by unfold Tab.beg; rw [hcc]
  have bl := h.ok.beg_le ht.1
  have G := Lib.hid (begun_ok h (capT t) ⟨hc.1, by omega⟩)
  rw [hbc] at G
  have S := Lib.hid (fun (wy : World) (hy : Chg (fun _ => False) w wy) (h1 : ¬ T.beg t = 0) => start_ok (h.frame0 hy) (T.beg t - 1) ⟨by omega, by omega⟩)
  have L := Lib.hid (fun (wy : World) (hy : Chg (fun _ => False) w wy) (h1 : ¬ T.beg t = 0) => length_ok (h.frame0 hy) (T.beg t - 1) ⟨by omega, by omega⟩)
  have hct : (if 9223372036854775807 < t then 9223372036854775807 else t) = capT t := by unfold capT; split <;> omega
  have HCT := Lib.hid hct
  have E1 := Lib.hid (show T.at1 t = if T.beg t = 0 then 0 else T.beg t - 1 from rfl)
  have E2 := Lib.hid (show T.at2 t = if T.beg t = 0 then false else decide (IntKind.u64.wrap (capT t - T.sta (T.beg t - 1)) < (T.win (T.beg t - 1)).n) from rfl)
  obtain ⟨bg, hbg⟩ : ∃ bg, bg = T.beg t := ⟨_, rfl⟩
  rw [← hbg] at bl G S L E1 E2
  have bl0 := bl.1
  have bl1 := bl.2.1
  generalize capT t = ct at *
  obtain ⟨ct0, ct1⟩ := hc
  clear bl hbg hbc hcc hct h
  unfold ptrV at *
  go_enter Try.func9, Try.ntmps9
  go_upto_region 2 with (fail)
  rw [HCT.out]
  go_wp2_with (fail)
  refine G.out.mono ?_
  rintro e w2 ⟨rfl, hc⟩
  have HC := Lib.hid hc
  clear hc
  by_cases q : bg = 0
  · subst q
    go_wp2
    go_ret2
    exact ⟨by rw [E1.out, E2.out]; simp, HC.out⟩
  · have q' : 1 ≤ bg := by omega
    have q2 : 0 ≤ bg - 1 := by omega
    have q3 : (bg == 0) = false := by simp [q]
    go_wp2_with (fail)
    refine (S.out _ HC.out q).mono ?_
    rintro e w3 ⟨rfl, hc⟩
    have HC3 := Lib.hid (HC.out.trans hc fun _ _ => id)
    clear hc
    go_wp2_with (fail)
    refine (L.out _ HC3.out q).mono ?_
    rintro e w4 ⟨rfl, hc⟩
    have HC4 := Lib.hid (HC3.out.trans hc fun _ _ => id)
    clear hc
    go_wp2
    go_ret2
    exact ⟨by rw [E1.out, E2.out, if_neg q, if_neg q]; simp, HC4.out⟩

theorem next_ok {w : World} {b : Nat} {sv : Value} {T : Tab} (h : HourIs w b sv T) (t : Int) (ht : U64 t) : Calls Try.prog 10 #[ptrV b, .int .u64 t] w fun e w' => e = .returned (.int .u64 (T.nxt t)) ∧ Chg (fun _ => False) w w' := by
  have E1 := Lib.hid (show T.nxt t = if t = 0 then 0 else T.beg (capT t - 1) from rfl)
  have hct : (if 9223372036854775807 < t then 9223372036854775807 else t) = capT t := by unfold capT; split <;> omega
  have HCT := Lib.hid hct
  have G := Lib.hid (fun h1 h2 => begun_ok h (capT t - 1) ⟨h1, h2⟩)
  obtain ⟨t0, t1⟩ := ht
  clear hct h
  unfold ptrV at *
  by_cases q : t = 0
  · subst q
    go_enter Try.func10, Try.ntmps10
    go_wp2
    go_ret
    exact ⟨by rw [E1.out]; simp, Chg.refl _ _⟩
  · have q3 : (t == 0) = false := by simp [q]
    by_cases q5 : 9223372036854775807 < t
    · have hc : capT t = 9223372036854775807 := by unfold capT; omega
      rw [hc] at G E1
      clear hc HCT
      go_enter Try.func10, Try.ntmps10
      go_wp2_with (fail)
      refine (G.out (by omega) (by omega)).mono ?_
      rintro e w2 ⟨rfl, hc⟩
      go_wp2
      go_ret
      exact ⟨by rw [E1.out, if_neg q]; simp, hc⟩
    · have hc : capT t = t := by unfold capT; omega
      rw [hc] at G E1
      clear hc HCT
      have q4 : 1 ≤ t := by omega
      have q6 : 0 ≤ t - 1 := by omega
      go_enter Try.func10, Try.ntmps10
      go_wp2_with (fail)
      refine (G.out (by omega) (by omega)).mono ?_
      rintro e w2 ⟨rfl, hc⟩
      go_wp2
      go_ret
      exact ⟨by rw [E1.out, if_neg q]; simp, hc⟩
end Go.Proofs.Ytkeoaeeneenkaaa
