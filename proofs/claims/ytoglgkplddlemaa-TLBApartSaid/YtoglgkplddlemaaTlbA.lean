/- Contracts of package tlb's small methods (New, use, Look, Len, Drop, Flush): a TLB's two blocks are a list of entries, the one used last first. No condition. -/
import Derived.Test.YtoglgkplddlemaaProg
import Derived.Test.YtoglgkplddlemaaLibMaps
import Derived.Lib.Hide
namespace Go.Proofs.Ytoglgkplddlemaa
open Go.RowKit Go.Cl
open Go.Maps (Keyed)
open Go.ChangeMaps (setBlock)
set_option linter.unusedVariables false
set_option linter.unusedSimpArgs false
attribute [local go_sem] lt_add_one' blk_alloc_past blk_alloc_at blk_drew blk_setCell_ne blk_setBlock_ne blk_setBlock_eq cell_setBlock_ne frozen_setBlock_ne size_setBlock

theorem laidOut : laidOutB Try.prog = true := by kernel_rfl
theorem row32 : (32 : TypeId) < Try.prog.types.size := of_decide_eq_true (by kernel_rfl)
theorem wide32 : (match Try.prog.underlying 32 with | some (.array _ _) | some (.struct _) => true | _ => false) = true := by kernel_rfl
set_option maxRecDepth 100000 in
theorem tagKeyed : Keyed Try.prog 32 := Keyed.of_law (deep_law_laid laidOut (m := 2) (by omega) row32 (by kernel_rfl) wide32)

/-- An entry: cell, page, frame, permission, when it was used. -/
structure En where
  c : Int
  p : Int
  f : Int
  r : Int
  u : Int
  deriving DecidableEq

def tagV (c p : Int) : Value := .agg #[.int .i64 c, .int .u32 p]
def foundV (f r u : Int) : Value := .agg #[.int .u32 f, .int .u8 r, .int .u64 u]
def En.pair (e : En) : Value × Value := (tagV e.c e.p, foundV e.f e.r e.u)
def En.is (e : En) (c p : Int) : Bool := e.c == c && e.p == p
def TagOk (c p : Int) : Prop := -9223372036854775808 ≤ c ∧ c ≤ 9223372036854775807 ∧ 0 ≤ p ∧ p ≤ 4294967295

theorem tagV_inj {c p c' p' : Int} : tagV c p = tagV c' p' ↔ c = c' ∧ p = p' := by simp [tagV]

/-- What a TLB's two blocks are: b the struct, m the map. -/
structure TlbIs (w : World) (b m : Nat) (sl now : Int) (L : List En) : Prop where
  st : blk w b = some (.cells #[.int .i64 sl, .map (some m), .int .u64 now] 85 (0, 0))
  ne : b ≠ m
  mp : MapIs Try.prog 32 w m (L.map En.pair)
  ord : L.Pairwise (fun x y => y.u < x.u)
  le : ∀ e ∈ L, 0 ≤ e.u ∧ e.u ≤ now
  ok : 0 ≤ now ∧ now < 1000000000
  few : (L.length : Int) ≤ sl
  tags : ∀ e ∈ L, TagOk e.c e.p

theorem TlbIs.frame {S : Nat → Prop} {w w' : World} {b m : Nat} {sl now : Int} {L : List En} (h : TlbIs w b m sl now L) (hc : Chg S w w') (hb : ¬ S b) (hm : ¬ S m) : TlbIs w' b m sl now L :=
  ⟨hc.blk' h.st hb, h.ne, h.mp.frame hc hm, h.ord, h.le, h.ok, h.few, h.tags⟩

theorem cells32 : Try.prog.cellsOf 32 = 2 := by kernel_rfl
theorem cells3 : Try.prog.cellsOf 3 = 1 := by kernel_rfl
theorem cells30 : Try.prog.cellsOf 30 = 1 := by kernel_rfl
theorem keyT32 : Try.prog.keyType 32 = true := by kernel_rfl
theorem manyTypes : ∃ d, Try.prog.types.size + 1 = d + 2 := ⟨Try.prog.types.size - 1, by have : 1 < Try.prog.types.size := of_decide_eq_true (by kernel_rfl); omega⟩

theorem isKey_tag {c p : Int} (h : TagOk c p) : IsKey Try.prog 32 (tagV c p) := by
  obtain ⟨h1, h2, h3, h4⟩ := h
  obtain ⟨d, hd⟩ := manyTypes
  have w1 : (Lit.int .i64 c).wf = true := by simp [Lit.wf, IntKind.min, IntKind.max, IntKind.signed, IntKind.bits]; omega
  have w2 : (Lit.int .u32 p).wf = true := by simp [Lit.wf, IntKind.min, IntKind.max, IntKind.signed, IntKind.bits]; omega
  have hf : Value.formed Try.prog 32 (tagV c p) = true := by simp [tagV, Value.formed, Try.underlying32, cells32]
  have hc : (tagV c p).cells.toList = [.int .i64 c, .int .u32 p] := by simp [tagV, Value.cells]
  have hl : Try.prog.keyLits (d + 2) 32 [.int .i64 c, .int .u32 p] = some [.int .i64 c, .int .u32 p] := by
    simp [Program.keyLits, Try.underlying32, cells32, Try.underlying3, Try.underlying30, cells3, cells30, w1, w2]
  refine ⟨.string (keyBytes [.int .i64 c, .int .u32 p]), ?_⟩
  unfold keyOf
  rw [Try.underlying32]
  simp only [keyT32, hf, hc, hd, hl, Bool.and_self, if_true, Option.map_some]

theorem TlbIs.facts {w : World} {b m : Nat} {sl now : Int} {L : List En} (h : TlbIs w b m sl now L) :
    (∀ j, b < w.heap.size + j) ∧ (∀ j, m < w.heap.size + j) ∧ b < w.heap.size ∧ m < w.heap.size ∧ w.cell? ⟨b, 0, none⟩ = some (.int .i64 sl) ∧ w.cell? ⟨b, 1, none⟩ = some (.map (some m)) ∧ w.cell? ⟨b, 2, none⟩ = some (.int .u64 now) ∧ w.frozen? ⟨b, 2, none⟩ = false := by
  have h1 := blk_lt h.st
  have h2 := h.mp.lt
  exact ⟨fun j => by omega, fun j => by omega, h1, h2, cell_of_blk h.st 0, cell_of_blk h.st 1, cell_of_blk h.st 2, frozen_of_blk h.st 2⟩

/-- The list behind a use. -/
def bump (L : List En) (c p f r now : Int) : List En := ⟨c, p, f, r, now + 1⟩ :: L.filter (fun e => !e.is c p)

theorem not_is {e : En} {c p : Int} : (!e.is c p) = true ↔ tagV e.c e.p ≠ tagV c p := by
  simp [En.is, tagV]
  omega

theorem filter_pair (L : List En) (c p : Int) (h : (L.map En.pair |>.map (·.1)).Nodup) :
    (∀ q ∈ L.map En.pair, q.1 ≠ tagV c p) ∧ L.filter (fun e => !e.is c p) = L ∨ ∃ e ∈ L, e.is c p = true ∧ (L.map En.pair).Perm (e.pair :: (L.filter (fun e => !e.is c p)).map En.pair) := by
  induction L with
  | nil => left; simp
  | cons x L ih =>
    simp only [List.map_cons, List.nodup_cons] at h
    by_cases hx : x.is c p = true
    · right
      refine ⟨x, by simp, hx, ?_⟩
      have hx' : x.c = c ∧ x.p = p := by simpa [En.is] using hx
      have : (x :: L).filter (fun e => !e.is c p) = L := by
        rw [List.filter_cons_of_neg (by simp [hx])]
        refine List.filter_eq_self.2 fun e he => not_is.2 fun e1 => h.1 ?_
        simp only [List.mem_map]
        exact ⟨e.pair, ⟨e, he, rfl⟩, by simp only [En.pair]; rw [e1, hx'.1, hx'.2]⟩
      rw [this]
      simp
    · have hx2 : tagV x.c x.p ≠ tagV c p := not_is.1 (by simpa using hx)
      have hf : (x :: L).filter (fun e => !e.is c p) = x :: L.filter (fun e => !e.is c p) := List.filter_cons_of_pos (by simpa using hx)
      rcases ih h.2 with ⟨h1, h2⟩ | ⟨e, he, h1, h2⟩
      · left
        refine ⟨fun q hq => ?_, by rw [hf, h2]⟩
        rcases List.mem_cons.1 hq with rfl | hq
        · exact hx2
        · exact h1 q hq
      · right
        refine ⟨e, by simp [he], h1, ?_⟩
        rw [hf]
        simp only [List.map_cons]
        exact (h2.cons _).trans (List.Perm.swap _ _ _)

theorem pairwise_filter {L : List En} (h : L.Pairwise (fun x y => y.u < x.u)) (q : En → Bool) : (L.filter q).Pairwise (fun x y => y.u < x.u) := h.filter _

/-- The store of 'use': what the map is behind it. -/
theorem TlbIs.put {w : World} {b m : Nat} {sl now : Int} {L : List En} (h : TlbIs w b m sl now L) {c p : Int} (ht : TagOk c p) (f r : Int) :
    ∃ o, (∀ w' : World, blk w' m = blk w m → (Instr.mapUpdate 82 (.map (some m)) (.agg #[.int .i64 c, .int .u32 p]) (.agg #[.int .u32 f, .int .u8 r, .int .u64 (now + 1)])).run Try.prog w' = .ok () (setBlock w' m o)) ∧
      ∀ w' : World, blk w' m = some o → MapIs Try.prog 32 w' m ((bump L c p f r now).map En.pair) := by
  have hk := isKey_tag ht
  rcases filter_pair L c p h.mp.nodup with ⟨h1, h2⟩ | ⟨e, he, h1, h2⟩
  · obtain ⟨o, a1, a2⟩ := h.mp.put_miss tagKeyed Try.underlying82 hk h1 (foundV f r (now + 1))
    refine ⟨o, a1, fun w' hw' => ?_⟩
    have := a2 w' hw'
    unfold bump
    rw [h2]
    exact this
  · have e1 : e.pair = (tagV c p, foundV e.f e.r e.u) := by
      have : e.c = c ∧ e.p = p := by simpa [En.is] using h1
      simp [En.pair, this.1, this.2]
    rw [e1] at h2
    obtain ⟨o, a1, a2⟩ := h.mp.put_hit tagKeyed Try.underlying82 hk h2 (foundV f r (now + 1))
    exact ⟨o, a1, fun w' hw' => a2 w' hw'⟩

theorem bump_ord {L : List En} (c p f r : Int) {now : Int} (h : L.Pairwise (fun x y => y.u < x.u)) (hl : ∀ e ∈ L, 0 ≤ e.u ∧ e.u ≤ now) : (bump L c p f r now).Pairwise (fun x y => y.u < x.u) := by
  unfold bump
  refine List.pairwise_cons.2 ⟨fun e he => ?_, h.filter _⟩
  have := hl e (List.mem_filter.1 he).1
  simp only
  omega

theorem bump_le {L : List En} (c p f r : Int) {now : Int} (h0 : 0 ≤ now) (hl : ∀ e ∈ L, 0 ≤ e.u ∧ e.u ≤ now) : ∀ e ∈ bump L c p f r now, 0 ≤ e.u ∧ e.u ≤ now + 1 := by
  unfold bump
  intro e he
  rcases List.mem_cons.1 he with rfl | he
  · simp only; omega
  · have := hl e (List.mem_filter.1 he).1
    omega

/-- What a use leaves. -/
theorem TlbIs.used {w w' : World} {b m : Nat} {sl now : Int} {L : List En} (h : TlbIs w b m sl now L) {c p f r : Int} (ht : TagOk c p) (hn : now < 999999999) (hf : ((bump L c p f r now).length : Int) ≤ sl)
    (hb : blk w' b = some (.cells #[.int .i64 sl, .map (some m), .int .u64 (now + 1)] 85 (0, 0))) (hm : MapIs Try.prog 32 w' m ((bump L c p f r now).map En.pair)) : TlbIs w' b m sl (now + 1) (bump L c p f r now) :=
  ⟨hb, h.ne, hm, bump_ord _ _ _ _ h.ord h.le, bump_le _ _ _ _ h.ok.1 h.le, by have := h.ok; omega, hf, fun e he => by
    unfold bump at he
    rcases List.mem_cons.1 he with rfl | he
    · exact ht
    · exact h.tags e (List.mem_filter.1 he).1⟩

set_option maxHeartbeats 400000 in
theorem use_ok {b m : Nat} {sl now : Int} {L : List En} {c p : Int} (f r : Int) {w : World} (h : TlbIs w b m sl now L) (ht : TagOk c p) (hn : now < 999999999) (hfew : ((bump L c p f r now).length : Int) ≤ sl) :
    Calls Try.prog 30 #[.pointer (some ⟨b, 0, none⟩), .agg #[.int .i64 c, .int .u32 p], .agg #[.int .u32 f, .int .u8 r]] w fun e w' => e = .returned (.tuple #[]) ∧ TlbIs w' b m sl (now + 1) (bump L c p f r now) ∧ Chg (fun i => i = b ∨ i = m) w w' := by
  obtain ⟨hlt, hltm, hlt0, hltm0, c0, c1, c2, f2⟩ := h.facts
  obtain ⟨o, hup, hafter⟩ := h.put ht f r
  have n0 := h.ok.1
  have n1 := h.ok.2
  have hne := h.ne
  have hne' := h.ne.symm
  have HA := Lib.hid hafter
  have HF := Lib.hid hfew
  clear hafter hfew
  go_enter Try.func30, Try.ntmps30
  go_wp2
  go_region
  go_end0
  refine ⟨rfl, h.used ht hn HF.out ?_ (HA.out _ ?_), ?_⟩
  · simp [blk_setBlock_ne, blk_drew, blk_alloc_past, hlt, hlt0, hne, blk_setCell _ _ _ _ _ _ _ h.st]
  · exact blk_setBlock_eq _ _ _ (by simp; omega)
  · exact ((((Chg.refl _ _).setCell (by simp) _).alloc _).alloc _).drew.setBlock (by simp) _

theorem new_ok (n : Int) (h1 : 1 ≤ n) (h2 : n ≤ 64) (w : World) :
    Calls Try.prog 11 #[.int .i64 n] w fun e w' => ∃ b m, e = .returned (.tuple #[.pointer (some ⟨b, 0, none⟩), .int .i64 0]) ∧ TlbIs w' b m n 0 [] ∧ w.heap.size ≤ b ∧ w.heap.size ≤ m ∧ Chg (fun _ => False) w w' := by
  have hmm := @run_makeMap Try.prog
  have a1 : decide (n < 1) = false := by simp; omega
  have a2 : decide (64 < n) = false := by simp; omega
  go_enter Try.func11, Try.ntmps11
  go_wp2
  go_ret2
  refine ⟨_, _, rfl, ⟨blk_alloc_at _ _ _ (by simp), by simp, ?_, by simp, by simp, by simp, by simp; omega, by simp⟩, by simp, Nat.le_refl _, ((Chg.refl _ _).alloc _).alloc _⟩
  exact (MapIs.fresh w _ _).of_block (blk_alloc_past _ _ _ (by simp))

theorem new_bad (n : Int) (h : n < 1 ∨ 64 < n) (w : World) :
    Calls Try.prog 11 #[.int .i64 n] w fun e w' => e = .returned (.tuple #[.pointer none, .int .i64 50]) ∧ w = w' := by
  rcases h with h | h
  · have a1 : decide (n < 1) = true := by simp; omega
    go_enter Try.func11, Try.ntmps11
    go_wp2
    go_ret2
    exact ⟨rfl, rfl⟩
  · have a1 : decide (n < 1) = false := by simp; omega
    have a2 : decide (64 < n) = true := by simp; omega
    go_enter Try.func11, Try.ntmps11
    go_wp2
    go_ret2
    exact ⟨rfl, rfl⟩

theorem len_ok {b m : Nat} {sl now : Int} {L : List En} {w : World} (h : TlbIs w b m sl now L) :
    Calls Try.prog 15 #[.pointer (some ⟨b, 0, none⟩)] w fun e w' => e = .returned (.int .i64 L.length) ∧ w = w' := by
  obtain ⟨hlt, hltm, hlt0, hltm0, c0, c1, c2, f2⟩ := h.facts
  have hl := h.mp.run_len Try.underlying82 3
  rw [List.length_map] at hl
  go_enter Try.func15, Try.ntmps15
  go_wp2
  go_ret
  exact ⟨rfl, rfl⟩

/-- An entry of the list under a tag. -/
def hitE (L : List En) (c p : Int) : Option En := L.find? (fun e => e.is c p)

theorem hit_some {L : List En} {c p : Int} {e : En} (h : hitE L c p = some e) : e ∈ L ∧ e.c = c ∧ e.p = p := by
  have h1 := List.find?_some h
  exact ⟨List.mem_of_find?_eq_some h, by simpa [En.is] using h1⟩

theorem hit_none {L : List En} {c p : Int} (h : hitE L c p = none) : ∀ q ∈ L.map En.pair, q.1 ≠ tagV c p := by
  intro q hq
  obtain ⟨e, he, rfl⟩ := List.mem_map.1 hq
  have := List.find?_eq_none.1 h e he
  exact not_is.1 (by simpa using this)

theorem TlbIs.look_hit {w : World} {b m : Nat} {sl now : Int} {L : List En} (h : TlbIs w b m sl now L) {c p : Int} (ht : TagOk c p) {e : En} (he : hitE L c p = some e) :
    ∀ w' : World, blk w' m = blk w m → (Instr.lookup 82 (.map (some m)) (.agg #[.int .i64 c, .int .u32 p]) true).run Try.prog w' = .ok (.tuple #[.agg #[.int .u32 e.f, .int .u8 e.r, .int .u64 e.u], .bool true]) w' := by
  obtain ⟨h1, h2, h3⟩ := hit_some he
  have hm : (tagV c p, foundV e.f e.r e.u) ∈ L.map En.pair := List.mem_map.2 ⟨e, h1, by simp [En.pair, h2, h3]⟩
  have := h.mp.look_hit tagKeyed Try.underlying82 (isKey_tag ht) hm true
  exact this

theorem zero87 (w : World) : (zeroValue 87).run Try.prog w = .ok (.agg #[.int .u32 0, .int .u8 0, .int .u64 0]) w := by kernel_rfl

theorem TlbIs.look_miss {w : World} {b m : Nat} {sl now : Int} {L : List En} (h : TlbIs w b m sl now L) {c p : Int} (ht : TagOk c p) (he : hitE L c p = none) :
    ∀ w' : World, blk w' m = blk w m → (Instr.lookup 82 (.map (some m)) (.agg #[.int .i64 c, .int .u32 p]) true).run Try.prog w' = .ok (.tuple #[.agg #[.int .u32 0, .int .u8 0, .int .u64 0], .bool false]) w' :=
  h.mp.look_miss tagKeyed Try.underlying82 zero87 (isKey_tag ht) (hit_none he) true

set_option maxHeartbeats 400000 in
theorem look_no {b m : Nat} {sl now : Int} {L : List En} {c p : Int} {w : World} (h : TlbIs w b m sl now L) (ht : TagOk c p) (he : hitE L c p = none) :
    Calls Try.prog 13 #[.pointer (some ⟨b, 0, none⟩), .agg #[.int .i64 c, .int .u32 p]] w fun e w' => e = .returned (.tuple #[.agg #[.int .u32 0, .int .u8 0], .bool false]) ∧ Chg (fun _ => False) w w' := by
  obtain ⟨-, -, hlt0, hltm0, c0, c1, c2, f2⟩ := h.facts
  obtain ⟨_, _, _, _, _, _, _, _, _, _, _, _, _, _, _, _, _, _⟩ := lts hlt0
  obtain ⟨_, _, _, _, _, _, _, _, _, _, _, _, _, _, _, _, _, _⟩ := lts hltm0
  have hlk := h.look_miss ht he
  clear he
  go_enter Try.func13, Try.ntmps13
  go_wp2
  go_region
  go_wp2
  refine bodyPost_ret (v := .tuple #[.agg #[.int .u32 0, .int .u8 0], .bool false]) (by simp [results, Try.results13, go_sem]) rfl ⟨rfl, ?_⟩
  repeat (first | exact Chg.refl _ _ | apply Chg.drew | (refine Chg.setCell ?_ (by simp) _) | (refine Chg.alloc ?_ _))

theorem bump_len {L : List En} {c p f r now : Int} {e : En} (h : e ∈ L) (h2 : e.is c p = true) : (bump L c p f r now).length ≤ L.length := by
  unfold bump
  have h3 : (L.filter fun e => !e.is c p).length < L.length := by
    rcases Nat.lt_or_ge (L.filter fun e => !e.is c p).length L.length with h4 | h4
    · exact h4
    · have := List.length_filter_eq_length_iff.1 (Nat.le_antisymm (List.length_filter_le _ _) h4) e h
      simp [h2] at this
  simp only [List.length_cons]
  omega

set_option maxHeartbeats 400000 in
theorem look_yes {b m : Nat} {sl now : Int} {L : List En} {c p : Int} {e0 : En} {w : World} (h : TlbIs w b m sl now L) (ht : TagOk c p) (he : hitE L c p = some e0) (hn : now < 999999999) :
    Calls Try.prog 13 #[.pointer (some ⟨b, 0, none⟩), .agg #[.int .i64 c, .int .u32 p]] w fun e w' => e = .returned (.tuple #[.agg #[.int .u32 e0.f, .int .u8 e0.r], .bool true]) ∧ TlbIs w' b m sl (now + 1) (bump L c p e0.f e0.r now) ∧ Chg (fun i => i = b ∨ i = m) w w' := by
  obtain ⟨-, -, hlt0, hltm0, c0, c1, c2, f2⟩ := h.facts
  obtain ⟨_, _, _, _, _, _, _, _, _, _, _, _, _, _, _, _, _, _⟩ := lts hlt0
  obtain ⟨_, _, _, _, _, _, _, _, _, _, _, _, _, _, _, _, _, _⟩ := lts hltm0
  have hlk := h.look_hit ht he
  have hfew : ((bump L c p e0.f e0.r now).length : Int) ≤ sl := by
    obtain ⟨h1, h2, h3⟩ := hit_some he
    have := bump_len (f := e0.f) (r := e0.r) (now := now) h1 (by simp [En.is, h2, h3] : e0.is c p = true)
    have := h.few
    omega
  have H := Lib.hid h
  have HE := Lib.hid he
  have HF := Lib.hid hfew
  clear h he hfew
  go_enter Try.func13, Try.ntmps13
  go_wp2
  go_region
  go_wp2_with fail
  refine (use_ok (b := b) (m := m) (sl := sl) (now := now) (L := L) (c := c) (p := p) e0.f e0.r (H.out.frame (S := fun _ => False) ?_ (by simp) (by simp)) ht hn HF.out).mono ?_
  · repeat (first | exact Chg.refl _ _ | apply Chg.drew | (refine Chg.setCell ?_ (by simp) _) | (refine Chg.alloc ?_ _))
  rintro e w1 ⟨rfl, h1, g1⟩
  have b6 : blk w1 (w.heap.size + 1 + 1) = some (.cells #[.int .u32 e0.f, .int .u8 e0.r, .int .u64 e0.u] 87 (0, 0)) := g1.blk' (by rw [blk_drew]; exact blk_alloc_at _ _ _ (by simp)) (by simp only [not_or]; constructor <;> omega)
  have b4 : blk w1 (w.heap.size + 1) = some (.cells #[.int .u32 0, .int .u8 0] 38 (0, 0)) := g1.blk' (by rw [blk_drew, blk_alloc_past _ _ _ (by simp)]; exact blk_alloc_at _ _ _ (by simp)) (by simp only [not_or]; constructor <;> omega)
  have d0 := cell_of_blk b6 0
  have d1 := cell_of_blk b6 1
  have q0 := cell_of_blk b4 0
  have q1 := cell_of_blk b4 1
  have r0 := frozen_of_blk b4 0
  have r1 := frozen_of_blk b4 1
  simp only [List.getElem?_toArray, List.getElem?_cons_zero, List.getElem?_cons_succ] at d0 d1 q0 q1
  have HG := Lib.hid g1
  have H1 := Lib.hid h1
  have B6 := Lib.hid b6
  have B4 := Lib.hid b4
  clear g1 h1 b6 b4
  go_wp2
  refine bodyPost_ret (v := .tuple #[.agg #[.int .u32 e0.f, .int .u8 e0.r], .bool true]) (by simp [results, Try.results13, go_sem, *]) rfl ⟨rfl, H1.out.frame (S := fun i => i = w.heap.size + 1) ?_ (by omega) (by omega), ?_⟩
  · repeat (first | exact Chg.refl _ _ | apply Chg.drew | (refine Chg.setCell ?_ (by simp) _) | (refine Chg.alloc ?_ _))
  · refine Chg.trans (b := w1) (S' := fun i => i = w.heap.size + 1) (Chg.trans (S := fun i => i = b ∨ i = m) (b := World.drew _) (S' := fun i => i = b ∨ i = m) ?_ HG.out (fun _ _ h => h)) ?_ (by intro i hi e; omega)
    · repeat (first | exact Chg.refl _ _ | apply Chg.drew | (refine Chg.setCell ?_ (by simp) _) | (refine Chg.alloc ?_ _))
    · repeat (first | exact Chg.refl _ _ | apply Chg.drew | (refine Chg.setCell ?_ (by simp) _) | (refine Chg.alloc ?_ _))
end Go.Proofs.Ytoglgkplddlemaa
