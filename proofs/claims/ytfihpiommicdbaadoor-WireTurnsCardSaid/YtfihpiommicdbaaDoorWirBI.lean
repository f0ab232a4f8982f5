/- Readers beside the book: any step of both; a part of both; how few lists the book has. No condition. -/
import Derived.Test.YtfihpiommicdbaaDoorWirBG
import Derived.Test.YtfihpiommicdbaaDoorWirBH
namespace Go.Proofs.YtfihpiommicdbaaDoor
open Go.RowKit Go.Cl
set_option linter.unusedVariables false
set_option linter.unusedSimpArgs false

theorem BookAt.perm {base B : Nat} {w : World} {bs : BS} {R R' : List Thing} (h : BookAt base w B bs R) (hp : R.Perm R') : BookAt base w B bs R' :=
  (h.step (C := True) fun Z hz => ⟨hz.perm (hp.append_left Z), trivial⟩).1
theorem BookAt.sub {base B : Nat} {w : World} {bs : BS} {R R' : List Thing} (h : BookAt base w B bs R) (hp : R'.Sublist R) : BookAt base w B bs R' :=
  (h.step (C := True) fun Z hz => ⟨hz.sub (hp.append_left Z), trivial⟩).1
/-- A reader goes on, and something new stands there. -/
theorem BookAt.rdAdd {base B b : Nat} {w w1 : World} {bs : BS} {u : Thing} {v : Value} {s s' : RS} {R : List Thing} (h : BookAt base w B bs (rdT base b v s :: R)) (hb : base ≤ w.heap.size) (hg : RGoes w w1 base b v s') (hu : u.holds w1) (hf : ∀ i, u.foot i → w.heap.size ≤ i) :
    BookAt base w1 B bs (u :: rdT base b v s' :: R) ∧ Chg (fun i => base ≤ i) w w1 :=
  h.step fun Z hz => by
    have h1 := hz.rd Z hb hg
    refine ⟨?_, h1.2⟩
    have h2 : Sep base w1 (u :: (Z ++ rdT base b v s' :: R)) := h1.1.add (n0 := w.heap.size) (fun t ht i hi => by
      rcases List.mem_append.1 ht with ht | ht
      · exact t.old (hz.all t (by simp [ht])) hi
      · rcases List.mem_cons.1 ht with rfl | ht
        · exact ((hz.all (rdT base b v s) (by simp) : RdIs w base b v s).foot hi).2
        · exact t.old (hz.all t (by simp [ht])) hi) hu hf hb
    exact h2.perm List.perm_middle.symm
theorem BookAt.vdAdd {base B b : Nat} {w w1 : World} {bs : BS} {u : Thing} {v : Value} {s s' : RS} {R : List Thing} (h : BookAt base w B bs (vdT base b v s :: R)) (hb : base ≤ w.heap.size) (hg : VGoes w w1 base b v s') (hu : u.holds w1) (hf : ∀ i, u.foot i → w.heap.size ≤ i) :
    BookAt base w1 B bs (u :: vdT base b v s' :: R) ∧ Chg (fun i => base ≤ i) w w1 :=
  h.step fun Z hz => by
    have h1 := hz.vd Z hb hg
    refine ⟨?_, h1.2⟩
    have h2 : Sep base w1 (u :: (Z ++ vdT base b v s' :: R)) := h1.1.add (n0 := w.heap.size) (fun t ht i hi => by
      rcases List.mem_append.1 ht with ht | ht
      · exact t.old (hz.all t (by simp [ht])) hi
      · rcases List.mem_cons.1 ht with rfl | ht
        · exact ((hz.all (vdT base b v s) (by simp) : VdIs w base b v s).foot hi).2
        · exact t.old (hz.all t (by simp [ht])) hi) hu hf hb
    exact h2.perm List.perm_middle.symm
/-- A part of both readers. -/
theorem BookAt.part {base B b b' b1 b2 : Nat} {w w1 w2 : World} {bs : BS} {v v' v1 v2 : Value} {s s' s1 : RS} {R : List Thing} (h : BookAt base w B bs (rdT base b v s :: vdT base b' v' s :: R)) (hb : base ≤ w.heap.size) (hg : RGoes w w1 base b v s') (h1 : RdIs w1 w.heap.size b1 v1 s1) (hg2 : VGoes w1 w2 base b' v' s') (h2 : VdIs w2 w1.heap.size b2 v2 s1) :
    BookAt base w2 B bs (rdT base b v s' :: vdT base b' v' s' :: rdT base b1 v1 s1 :: vdT base b2 v2 s1 :: R) ∧ Chg (fun i => base ≤ i) w w2 := by
  obtain ⟨k1, c1⟩ := h.rdAdd (u := rdT base b1 v1 s1) hb hg (h1.lower hb) fun i hi => (h1.foot hi).1
  have hb1 := Nat.le_trans hb c1.size
  have k2 : BookAt base w1 B bs (vdT base b' v' s :: rdT base b1 v1 s1 :: rdT base b v s' :: R) := k1.perm (List.perm_middle (l₁ := [_, _]))
  obtain ⟨k3, c2⟩ := k2.vdAdd (u := vdT base b2 v2 s1) hb1 hg2 (h2.lower hb1) fun i hi => (h2.foot hi).1
  refine ⟨k3.perm ?_, c1.trans c2 fun _ _ h => h⟩
  -- [v2, v', r1, r, ..R] ~ [r, v', r1, v2, ..R]
  refine (List.perm_middle (l₁ := [_, _, _]) (l₂ := R) (a := rdT base b v s')).trans (.cons _ ?_)
  exact (List.perm_middle (l₁ := [_, _]) (l₂ := R) (a := vdT base b2 v2 s1)).symm

/-- Any step of both. -/
theorem reads_any {w : World} {base B b b' : Nat} {v v' : Value} {s : RS} {bs : BS} {R : List Thing} (h : BookAt base w B bs (rdT base b v s :: vdT base b' v' s :: R)) (hbs : base ≤ w.heap.size) (hfr : bs.fresh.length ≤ 1000000) (hsx : s.xs.length ≤ 140737488000000) (kd nn k : Int) (hk : k ≤ 9223372036854775807) (ov : Value) (st : ByteArray) :
    Calls Tryd.prog 28 #[.agg #[.pointer (some ⟨b, 0, none⟩), .pointer (some ⟨b', 0, none⟩)], .agg #[.int .i64 kd, .int .u64 nn, .int .i64 k, ov, .string st], .pointer (some ⟨B, 0, none⟩)] w fun e w' => e = .returned (.bool true) ∧ (∃ bs', BookAt base w' B bs' (rdT base b v (s.stepped kd k) :: vdT base b' v' (s.stepped kd k) :: R) ∧ (bs' = bs ∨ ∃ v1 c, bs' = { bs with fresh := bs.fresh ++ [(v1, c, s.rawV k)] })) ∧ Chg (fun i => base ≤ i) w w' := by
  have close : ∀ {t : RS}, s.stepped kd k = t → (Calls Tryd.prog 28 #[.agg #[.pointer (some ⟨b, 0, none⟩), .pointer (some ⟨b', 0, none⟩)], .agg #[.int .i64 kd, .int .u64 nn, .int .i64 k, ov, .string st], .pointer (some ⟨B, 0, none⟩)] w fun e w' => e = .returned (.bool true) ∧ BookAt base w' B bs (rdT base b v t :: vdT base b' v' t :: R) ∧ Chg (fun i => base ≤ i) w w') → Calls Tryd.prog 28 #[.agg #[.pointer (some ⟨b, 0, none⟩), .pointer (some ⟨b', 0, none⟩)], .agg #[.int .i64 kd, .int .u64 nn, .int .i64 k, ov, .string st], .pointer (some ⟨B, 0, none⟩)] w fun e w' => e = .returned (.bool true) ∧ (∃ bs', BookAt base w' B bs' (rdT base b v (s.stepped kd k) :: vdT base b' v' (s.stepped kd k) :: R) ∧ (bs' = bs ∨ ∃ v1 c, bs' = { bs with fresh := bs.fresh ++ [(v1, c, s.rawV k)] })) ∧ Chg (fun i => base ≤ i) w w' := by
    intro t ht hcall
    refine hcall.mono fun e w' he => ⟨he.1, ⟨bs, ?_, .inl rfl⟩, he.2.2⟩
    rw [ht]
    exact he.2.1
  by_cases h1 : kd = 1
  · subst h1; exact close rfl (reads_1 h hbs nn k hk ov st)
  by_cases h2 : kd = 2
  · subst h2; exact close rfl (reads_2 h hbs nn k hk ov st)
  by_cases h3 : kd = 3
  · subst h3; exact close rfl (reads_3 h hbs nn k hk ov st)
  by_cases h4 : kd = 4
  · subst h4; exact close rfl (reads_4 h hbs nn k hk ov st)
  by_cases h5 : kd = 5
  · subst h5
    refine (reads_5 h hbs hfr hsx nn k hk ov st).mono fun e w' he => ⟨he.1, ?_, he.2.2⟩
    obtain ⟨v1, c, hb⟩ := he.2.1
    exact ⟨_, hb, .inr ⟨v1, c, rfl⟩⟩
  by_cases h6 : kd = 6
  · subst h6; exact close rfl (reads_6 h hbs nn k hk ov st)
  by_cases h7 : kd = 7
  · subst h7; exact close rfl (reads_7 h hbs nn k hk ov st)
  by_cases h9 : kd = 9
  · subst h9; exact close rfl (reads_9 h hbs nn k hk ov st)
  by_cases h11 : kd = 11
  · subst h11; exact close rfl (reads_11 h hbs nn k hk ov st)
  exact close (by unfold RS.stepped; rw [if_neg h1, if_neg h2, if_neg h3, if_neg h4, if_neg h5, if_neg h6, if_neg h7, if_neg h9, if_neg h11]) (reads_else h hbs kd h1 h2 h3 h4 h5 h6 h7 h9 h11 nn k hk ov st)

/-- A step leaves the bytes. -/
theorem stepped_xs (s : RS) (kd k : Int) : (s.stepped kd k).xs = s.xs := by
  unfold RS.stepped
  split; exact next_xs _ _
  split; exact next_xs _ _
  split; exact next_xs _ _
  split; exact next_xs _ _
  split
  · unfold RS.rawS; split; exact fail_xs _ _ _; exact next_xs _ _
  split
  · unfold RS.textS RS.back
    split
    · split
      · rw [next_xs, text1_xs]
      · show ((s.text1 k).next (s.textN k)).xs = _
        rw [next_xs, text1_xs]
    · rfl
  split
  · unfold RS.padS
    split; exact fail_xs _ _ _
    split; exact next_xs _ _
    rw [fail_xs]; exact next_xs _ _
  split
  · unfold RS.end; split; exact fail_xs _ _ _; rfl
  split
  · split; rfl; exact fail_xs _ _ _
  rfl

/-- How few lists there are. -/
def BS.few (bs : BS) (m : Nat) : Prop := bs.L.length + 2 * bs.held.length + 2 * bs.fresh.length ≤ m ∧ (∀ x ∈ bs.held ++ bs.fresh, x.2.2.length ≤ 140737488000000 ∧ Bytes x.2.2) ∧ ∀ x ∈ bs.L, 0 ≤ x.2 ∧ x.2 ≤ 255
theorem BS.few.small {bs : BS} {m : Nat} (h : bs.few m) (hm : m ≤ 1000000) : bs.Small := ⟨Nat.le_trans h.1 hm, h.2.1, h.2.2⟩
theorem BS.few.own {bs : BS} {m : Nat} (h : bs.few m) {v c : Value} {xs : List Int} (hl : xs.length ≤ 140737488000000) (hx : Bytes xs) : ({ bs with fresh := bs.fresh ++ [(v, c, xs)] } : BS).few (m + 2) := by
  refine ⟨?_, fun x hx2 => ?_, h.2.2⟩
  · have := h.1
    show bs.L.length + 2 * bs.held.length + 2 * (bs.fresh ++ [(v, c, xs)]).length ≤ m + 2
    rw [List.length_append]
    simp only [List.length_cons, List.length_nil]
    omega
  · have hx2 : x ∈ bs.held ++ (bs.fresh ++ [(v, c, xs)]) := hx2
    rw [← List.append_assoc] at hx2
    rcases List.mem_append.1 hx2 with h2 | h2
    · exact h.2.1 x h2
    · simp only [List.mem_cons, List.not_mem_nil, or_false] at h2
      subst h2
      exact ⟨hl, hx⟩
theorem BS.few.more {bs : BS} {m m' : Nat} (h : bs.few m) (hm : m ≤ m') : bs.few m' := ⟨Nat.le_trans h.1 hm, h.2⟩
theorem BS.few.looks {bs : BS} {m : Nat} (h : bs.few m) {L' : List (Value × Int)} (hl : L'.length = bs.L.length + 2 * bs.held.length) (hb : ∀ x ∈ L', 0 ≤ x.2 ∧ x.2 ≤ 255) : (⟨L', bs.fresh, []⟩ : BS).few m := by
  refine ⟨?_, fun x hx => h.2.1 x ?_, hb⟩
  · have := h.1
    show L'.length + 2 * bs.fresh.length + 2 * 0 ≤ m
    omega
  · have hx : x ∈ bs.fresh ++ [] := hx
    rw [List.append_nil] at hx
    exact List.mem_append_right _ hx
end Go.Proofs.YtfihpiommicdbaaDoor
