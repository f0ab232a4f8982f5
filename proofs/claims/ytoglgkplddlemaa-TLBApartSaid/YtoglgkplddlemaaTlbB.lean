/- Contracts of package tlb's Drop, Flush and Put. No condition. -/
import Derived.Test.YtoglgkplddlemaaTlbA
import Derived.Test.YtoglgkplddlemaaLibRange
import Derived.Deep.LoopGhost
import Derived.Deep.QuietTactic
import Derived.BigQuiet
namespace Go.Proofs.Ytoglgkplddlemaa
open Go.RowKit Go.Cl
open Go.Maps (Keyed)
open Go.ChangeMaps (setBlock)
set_option linter.unusedVariables false
set_option linter.unusedSimpArgs false
attribute [local go_sem] lt_add_one' blk_alloc_past blk_alloc_at blk_drew blk_setCell_ne blk_setBlock_ne blk_setBlock_eq cell_setBlock_ne frozen_setBlock_ne size_setBlock

def cut (L : List En) (c p : Int) : List En := L.filter (fun e => !e.is c p)

/-- Taking a tag away. -/
theorem TlbIs.drop {w : World} {b m : Nat} {sl now : Int} {L : List En} (h : TlbIs w b m sl now L) {c p : Int} (ht : TagOk c p) (ty : TypeId) :
    ∃ o, (∀ w' : World, blk w' m = blk w m → (Builtin.delete_ #[82, 32] ty #[.map (some m), .agg #[.int .i64 c, .int .u32 p]]).run Try.prog w' = .ok (.tuple #[]) (setBlock w' m o)) ∧
      ∀ w' : World, blk w' m = some o → MapIs Try.prog 32 w' m ((cut L c p).map En.pair) := by
  have hk := isKey_tag ht
  rcases filter_pair L c p h.mp.nodup with ⟨h1, h2⟩ | ⟨e, he, h1, h2⟩
  · obtain ⟨o, a1, a2⟩ := h.mp.drop_miss tagKeyed Try.underlying82 hk h1 ty
    refine ⟨o, a1, fun w' hw' => ?_⟩
    have := a2 w' hw'
    unfold cut
    rw [h2]
    exact this
  · have e1 : e.pair = (tagV c p, foundV e.f e.r e.u) := by
      have : e.c = c ∧ e.p = p := by simpa [En.is] using h1
      simp [En.pair, this.1, this.2]
    rw [e1] at h2
    obtain ⟨o, a1, a2⟩ := h.mp.drop_hit tagKeyed Try.underlying82 hk h2 ty
    exact ⟨o, a1, fun w' hw' => a2 w' hw'⟩

theorem TlbIs.sub {w w' : World} {b m : Nat} {sl now : Int} {L : List En} (h : TlbIs w b m sl now L) (q : En → Bool)
    (hb : blk w' b = some (.cells #[.int .i64 sl, .map (some m), .int .u64 now] 85 (0, 0))) (hm : MapIs Try.prog 32 w' m ((L.filter q).map En.pair)) : TlbIs w' b m sl now (L.filter q) :=
  ⟨hb, h.ne, hm, h.ord.filter _, fun e he => h.le e (List.mem_filter.1 he).1, h.ok, by have := h.few; have := List.length_filter_le q L; omega, fun e he => h.tags e (List.mem_filter.1 he).1⟩

theorem hit_is {L : List En} {c p : Int} : (∃ e, hitE L c p = some e) ∨ hitE L c p = none := by
  cases h : hitE L c p with
  | none => exact .inr rfl
  | some e => exact .inl ⟨e, rfl⟩

set_option maxHeartbeats 400000 in
theorem drop_ok {b m : Nat} {sl now : Int} {L : List En} {c p : Int} {w : World} (h : TlbIs w b m sl now L) (ht : TagOk c p) :
    Calls Try.prog 18 #[.pointer (some ⟨b, 0, none⟩), .agg #[.int .i64 c, .int .u32 p]] w fun e w' => e = .returned (.bool (hitE L c p).isSome) ∧ TlbIs w' b m sl now (cut L c p) ∧ Chg (fun i => i = b ∨ i = m) w w' := by
  obtain ⟨-, -, hlt0, hltm0, c0, c1, c2, f2⟩ := h.facts
  obtain ⟨_, _, _, _, _, _, _, _, _, _, _, _, _, _, _, _, _, _⟩ := lts hlt0
  obtain ⟨_, _, _, _, _, _, _, _, _, _, _, _, _, _, _, _, _, _⟩ := lts hltm0
  obtain ⟨o, hup, hafter⟩ := h.drop ht 0
  have hne := h.ne
  have hne' := h.ne.symm
  have HA := Lib.hid hafter
  have H := Lib.hid h
  clear hafter
  rcases hit_is (L := L) (c := c) (p := p) with ⟨e0, he⟩ | he
  · have hlk := h.look_hit ht he
    have HE := Lib.hid he
    clear he h
    go_enter Try.func18, Try.ntmps18
    go_wp2
    go_region
    go_wp2
    go_region
    go_wp2
    go_ret
    refine ⟨by rw [HE.out]; rfl, H.out.sub _ ?_ (HA.out _ ?_), ?_⟩
    · simp [blk_setBlock_ne, blk_drew, blk_alloc_past, hlt0, hne, H.out.st, *]
    · exact blk_setBlock_eq _ _ _ (by simp; omega)
    · exact ((Chg.refl _ _).alloc _ |>.alloc _).drew.drew.setBlock (by simp) _
  · have hlk := h.look_miss ht he
    have HE := Lib.hid he
    clear he h
    go_enter Try.func18, Try.ntmps18
    go_wp2
    go_region
    go_wp2
    go_region
    go_wp2
    go_ret
    refine ⟨by rw [HE.out]; rfl, H.out.sub _ ?_ (HA.out _ ?_), ?_⟩
    · simp [blk_setBlock_ne, blk_drew, blk_alloc_past, hlt0, hne, H.out.st, *]
    · exact blk_setBlock_eq _ _ _ (by simp; omega)
    · exact ((Chg.refl _ _).alloc _ |>.alloc _).drew.drew.setBlock (by simp) _

theorem flush_ok {b m : Nat} {sl now : Int} {L : List En} {w : World} (h : TlbIs w b m sl now L) :
    Calls Try.prog 16 #[.pointer (some ⟨b, 0, none⟩)] w fun e w' => e = .returned (.int .i64 L.length) ∧ TlbIs w' b m sl now [] ∧ Chg (fun i => i = b ∨ i = m) w w' := by
  obtain ⟨-, -, hlt0, hltm0, c0, c1, c2, f2⟩ := h.facts
  have hl := h.mp.run_len Try.underlying82 3
  rw [List.length_map] at hl
  obtain ⟨o, hup, hafter⟩ := h.mp.run_clear Try.underlying82 0
  have hne := h.ne
  have HA := Lib.hid hafter
  have H := Lib.hid h
  clear hafter h
  go_enter Try.func16, Try.ntmps16
  go_wp2
  go_ret
  refine ⟨rfl, ⟨?_, hne, HA.out _ ?_, by simp, by simp, H.out.ok, by have := H.out.few; simp; omega, by simp⟩, ?_⟩
  · rw [blk_setBlock_ne _ _ _ _ hne]; exact H.out.st
  · exact blk_setBlock_eq _ _ _ hltm0
  · exact (Chg.refl _ _).setBlock (by simp) _

theorem last_of {L : List En} (ho : L.Pairwise (fun x y => y.u < x.u)) {e : En} (he : e ∈ L) (hm : ∀ x ∈ L, e.u ≤ x.u) : L.getLast? = some e := by
  induction L with
  | nil => simp at he
  | cons x L ih =>
    obtain ⟨h1, h2⟩ := List.pairwise_cons.1 ho
    cases L with
    | nil => simp at he; simp [he]
    | cons y L =>
      have he' : e ∈ y :: L := by
        rcases List.mem_cons.1 he with rfl | h
        · have := h1 y (by simp)
          have := hm y (by simp)
          omega
        · exact h
      rw [List.getLast?_cons_cons]
      exact ih h2 he' (fun z hz => hm z (by simp [hz]))

structure PutInv (W0 : World) (m G R : Nat) (now : Int) (L left : List En) (went : Bool) (old gc gp : Int) (wr : World) : Prop where
  rg : RangeIs Try.prog 32 wr m R (left.map En.pair)
  chg : Chg (fun i => i = G ∨ i = R) W0 wr
  gone : blk wr G = some (.cells #[.int .i64 gc, .int .u32 gp] 32 (0, 0))
  sub : ∀ e ∈ left, e ∈ L
  nd : left.Nodup
  seen : ∀ e ∈ L, e ∉ left → old ≤ e.u
  got : went = true → ∃ e ∈ L, e.c = gc ∧ e.p = gp ∧ e.u = old
  no : went = false → old = now + 1
  rng : 0 ≤ old ∧ old ≤ now + 1

theorem ord_nodup {L : List En} (h : L.Pairwise (fun x y => y.u < x.u)) : L.Nodup := h.imp (fun {a b} hab e => by rw [e] at hab; omega)

theorem put_end {W0 wr : World} {m G R : Nat} {now : Int} {L : List En} {went : Bool} {old gc gp : Int} (hle : ∀ e ∈ L, 0 ≤ e.u ∧ e.u ≤ now) (ho : L.Pairwise (fun x y => y.u < x.u)) (hne : L ≠ [])
    (hI : PutInv W0 m G R now L [] went old gc gp wr) : went = true ∧ ∃ e0 ∈ L, e0.c = gc ∧ e0.p = gp ∧ L.getLast? = some e0 := by
  obtain ⟨x, hx⟩ : ∃ x, x ∈ L := List.exists_mem_of_ne_nil L hne
  have hs : ∀ y ∈ L, old ≤ y.u := fun y hy => hI.seen y hy (by simp)
  have hw : went = true := by
    have a1 := hI.no
    cases went with
    | true => rfl
    | false =>
      have a1 := a1 rfl
      have a2 := hs x hx
      have a3 := hle x hx
      omega
  obtain ⟨e0, a1, a2, a3, a4⟩ := hI.got hw
  exact ⟨hw, e0, a1, a2, a3, last_of ho a1 fun y hy => by rw [a4]; exact hs y hy⟩

theorem put_less {W0 wr w2 : World} {m G R : Nat} {now : Int} {L left : List En} {went : Bool} {old gc gp : Int} (hI : PutInv W0 m G R now L left went old gc gp wr) {e : En} (he : e ∈ left) (hlt : e.u < old) (hu : 0 ≤ e.u)
    (hr : RangeIs Try.prog 32 w2 m R ((left.erase e).map En.pair)) (hc : Chg (fun i => i = G ∨ i = R) W0 w2) (hg : blk w2 G = some (.cells #[.int .i64 e.c, .int .u32 e.p] 32 (0, 0))) : PutInv W0 m G R now L (left.erase e) true e.u e.c e.p w2 := by
  refine ⟨hr, hc, hg, fun x hx => hI.sub x (List.mem_of_mem_erase hx), hI.nd.erase _, fun x hx hn => ?_, fun _ => ⟨e, hI.sub e he, rfl, rfl, rfl⟩, (fun h => by cases h), by have := hI.rng; omega⟩
  by_cases hxe : x = e
  · rw [hxe]; omega
  · by_cases hxl : x ∈ left
    · exact absurd ((List.mem_erase_of_ne hxe).2 hxl) hn
    · have := hI.seen x hx hxl; omega

theorem put_more {W0 wr w2 : World} {m G R : Nat} {now : Int} {L left : List En} {went : Bool} {old gc gp : Int} (hI : PutInv W0 m G R now L left went old gc gp wr) {e : En} (he : e ∈ left) (hlt : ¬ e.u < old)
    (hle : ∀ e ∈ L, 0 ≤ e.u ∧ e.u ≤ now) (hr : RangeIs Try.prog 32 w2 m R ((left.erase e).map En.pair)) (hc : Chg (fun i => i = G ∨ i = R) W0 w2) (hg : blk w2 G = some (.cells #[.int .i64 gc, .int .u32 gp] 32 (0, 0))) : PutInv W0 m G R now L (left.erase e) went old gc gp w2 := by
  refine ⟨hr, hc, hg, fun x hx => hI.sub x (List.mem_of_mem_erase hx), hI.nd.erase _, fun x hx hn => ?_, hI.got, hI.no, hI.rng⟩
  by_cases hxe : x = e
  · rw [hxe]; omega
  · by_cases hxl : x ∈ left
    · exact absurd ((List.mem_erase_of_ne hxe).2 hxl) hn
    · exact hI.seen x hx hxl

set_option maxHeartbeats 1000000 in
theorem put_full {b m : Nat} {sl now : Int} {L : List En} {c p f r : Int} {w : World} (h : TlbIs w b m sl now L) (ht : TagOk c p) (he : hitE L c p = none) (hfull : (L.length : Int) = sl) (hsl : 1 ≤ sl) (hn : now < 999999999) :
    Calls Try.prog 14 #[.pointer (some ⟨b, 0, none⟩), .agg #[.int .i64 c, .int .u32 p], .agg #[.int .u32 f, .int .u8 r]] w fun e w' => ∃ e0, L.getLast? = some e0 ∧ e = .returned (.tuple #[.agg #[.int .i64 e0.c, .int .u32 e0.p], .bool true]) ∧ TlbIs w' b m sl (now + 1) (bump (cut L e0.c e0.p) c p f r now) ∧ Chg (fun i => i = b ∨ i = m) w w' := by
  obtain ⟨-, -, hlt0, hltm0, c0, c1, c2, f2⟩ := h.facts
  obtain ⟨_, _, _, _, _, _, _, _, _, _, _, _, _, _, _, _, _, _⟩ := lts hlt0
  obtain ⟨_, _, _, _, _, _, _, _, _, _, _, _, _, _, _, _, _, _⟩ := lts hltm0
  have hlk := h.look_miss ht he
  have hl := h.mp.run_len Try.underlying82 3
  rw [List.length_map, hfull] at hl
  have hne := h.ne
  have hne' := h.ne.symm
  have n0 := h.ok.1
  have n1 := h.ok.2
  obtain ⟨oi, hrng, hrafter⟩ := h.mp.range Try.underlying82
  have H := Lib.hid h
  have HF := Lib.hid hfull
  have HE := Lib.hid he
  have HR := Lib.hid hrafter
  clear h he hrafter hfull
  go_enter Try.func14, Try.ntmps14
  go_wp2
  go_region
  go_wp2
  go_region
  go_wp2
  obtain ⟨W0, hW0⟩ : ∃ W0 : World, W0 = (((((w.alloc (.cells #[.int .i64 c, .int .u32 p] 32)).alloc (.cells #[.int .u32 f, .int .u8 r] 38)).alloc (.cells #[.int .i64 0, .int .u32 0] 32)).alloc (.cells #[.int .u32 0, .int .u8 0, .int .u64 0] 87)).alloc oi).drew.drew := ⟨_, rfl⟩
  rw [← hW0]
  have zW : W0.heap.size = w.heap.size + 5 := by rw [hW0]; simp
  have kW : Chg (fun _ => False) w W0 := by rw [hW0]; exact (((((Chg.refl _ _).alloc _).alloc _).alloc _).alloc _ |>.alloc _).drew.drew
  have k0 : blk W0 w.heap.size = some (.cells #[.int .i64 c, .int .u32 p] 32 (0, 0)) := by rw [hW0]; simp (disch := (first | omega | (simp only [World.size_alloc, World.size_drew, World.size_setCell, size_setBlock] <;> omega) | fail)) only [blk_drew, blk_alloc_past, blk_alloc_at, blk_setCell_ne, blk_setCell_eq, blk_setBlock_ne, blk_setBlock_eq]
  have k1 : blk W0 (w.heap.size + 1) = some (.cells #[.int .u32 f, .int .u8 r] 38 (0, 0)) := by rw [hW0]; simp (disch := (first | omega | (simp only [World.size_alloc, World.size_drew, World.size_setCell, size_setBlock] <;> omega) | fail)) only [blk_drew, blk_alloc_past, blk_alloc_at, blk_setCell_ne, blk_setCell_eq, blk_setBlock_ne, blk_setBlock_eq]
  have k2 : blk W0 (w.heap.size + 1 + 1) = some (.cells #[.int .i64 0, .int .u32 0] 32 (0, 0)) := by rw [hW0]; simp (disch := (first | omega | (simp only [World.size_alloc, World.size_drew, World.size_setCell, size_setBlock] <;> omega) | fail)) only [blk_drew, blk_alloc_past, blk_alloc_at, blk_setCell_ne, blk_setCell_eq, blk_setBlock_ne, blk_setBlock_eq]
  have k4 : RangeIs Try.prog 32 W0 m (w.heap.size + 1 + 1 + 1 + 1) (L.map En.pair) := HR.out _ _ (kW.blk hltm0 (by simp)) (by rw [hW0]; simp (disch := (first | omega | (simp only [World.size_alloc, World.size_drew, World.size_setCell, size_setBlock] <;> omega) | fail)) only [blk_drew, blk_alloc_past, blk_alloc_at, blk_setCell_ne, blk_setCell_eq, blk_setBlock_ne, blk_setBlock_eq])
  have I0 : PutInv W0 m (w.heap.size + 1 + 1) (w.heap.size + 1 + 1 + 1 + 1) now L L false (now + 1) 0 0 W0 := ⟨k4, Chg.refl _ _, k2, fun _ h => h, ord_nodup H.out.ord, fun e h h' => absurd h h', (fun h => by cases h), fun _ => rfl, by omega⟩
  obtain ⟨G, hG⟩ : ∃ G, G = w.heap.size + 1 + 1 := ⟨_, rfl⟩
  obtain ⟨R, hR⟩ : ∃ R, R = w.heap.size + 1 + 1 + 1 + 1 := ⟨_, rfl⟩
  rw [← hR, ← hG] at I0
  have HG := Lib.hid hG
  have HRR := Lib.hid hR
  have Z := Lib.hid zW
  have K := Lib.hid (And.intro kW (And.intro k0 k1))
  rw [← hR, ← hG]
  clear zW kW k0 k1 k2 k4 hW0 hG hR
  go_loopg [7, 10] L.length (fun g s7 s10 wr => ∃ (left : List En) (went : Bool) (old gc gp : Int), left.length = g ∧ s7 = .bool went ∧ s10 = .int .u64 old ∧ PutInv W0 m G R now L left went old gc gp wr)
  case atStart => exact ⟨L, false, now + 1, 0, 0, rfl, rfl, rfl, I0⟩
  case round =>
    obtain ⟨left, went, old, gc, gp, hgk, rfl, rfl, hI⟩ := hrel
    have Hgk := Lib.hid hgk
    clear hgk I0
    go_wp2_with (at_next; refine wpList_next_of wr (fun e : En => .agg #[.int .i64 e.c, .int .u32 e.p]) (fun e => .agg #[.int .u32 e.f, .int .u8 e.r, .int .u64 e.u]) rfl _ rfl 32 m R left rfl hI.rg ?_ ?_)
    · intro hl0
      have E : went = true ∧ ∃ e0 ∈ L, e0.c = gc ∧ e0.p = gp ∧ L.getLast? = some e0 := put_end H.out.le H.out.ord (by have := HF.out; cases L with | nil => simp at this; omega | cons x L => simp) (hl0 ▸ hI)
      obtain ⟨E2, E⟩ := E
      subst E2
      obtain ⟨e0, e1, rfl, rfl, e4⟩ := E
      obtain ⟨hrm, hrr, hrne⟩ := hI.rg.lt
      have bG : b < G ∧ m < G ∧ b < R ∧ m < R ∧ G < R := by rw [HG.out, HRR.out]; omega
      obtain ⟨b1, b2, b3, b4, b5⟩ := bG
      have KK : Chg (fun _ => False) w wr := K.out.1.trans hI.chg (fun i hi h => by rcases h with h | h <;> (rw [HG.out] at *; rw [HRR.out] at *; omega))
      have tW := (H.out.frame K.out.1 (by simp) (by simp)).frame hI.chg (by omega) (by omega)
      obtain ⟨-, -, ha, hb, q0, q1, q2, qf⟩ := tW.facts
      obtain ⟨_, _, _, _, _, _, _, _, _, _, _, _, _, _, _, _, _, _⟩ := lts ha
      obtain ⟨_, _, _, _, _, _, _, _, _, _, _, _, _, _, _, _, _, _⟩ := lts hb
      obtain ⟨o, hup, hafter⟩ := tW.drop (tW.tags e0 e1) 0
      have g1 := hI.gone
      have gl := blk_lt g1
      obtain ⟨_, _, _, _, _, _, _, _, _, _, _, _, _, _, _, _, _, _⟩ := lts gl
      have x0 := hI.chg.blk' K.out.2.1 (by rw [HG.out, HRR.out]; omega)
      have x1 := hI.chg.blk' K.out.2.2 (by rw [HG.out, HRR.out]; omega)
      have xl0 := blk_lt x0
      have xl1 := blk_lt x1
      obtain ⟨_, _, _, _, _, _, _, _, _, _, _, _, _, _, _, _, _, _⟩ := lts xl0
      obtain ⟨_, _, _, _, _, _, _, _, _, _, _, _, _, _, _, _, _, _⟩ := lts xl1
      have y0 := cell_of_blk x0 0
      have y1 := cell_of_blk x0 1
      have y2 := cell_of_blk x1 0
      have y3 := cell_of_blk x1 1
      have d0 := cell_of_blk g1 0
      have d1 := cell_of_blk g1 1
      have r0 := frozen_of_blk g1 0
      have r1 := frozen_of_blk g1 1
      have nG : ¬ G = m := by omega
      have nS : ¬ w.heap.size = m ∧ ¬ w.heap.size + 1 = m := by omega
      obtain ⟨nS0, nS1⟩ := nS
      simp only [List.getElem?_toArray, List.getElem?_cons_zero, List.getElem?_cons_succ] at d0 d1 y0 y1 y2 y3
      have X := Lib.hid (And.intro x0 (And.intro x1 g1))
      have HA := Lib.hid hafter
      have TW := Lib.hid tW
      have E1 := Lib.hid e1
      have E4 := Lib.hid e4
      have KH := Lib.hid KK
      clear x0 x1 g1 hafter hI hl0 tW e1 e4 KK
      go_wp2
      have hh : blk wr.drew m = blk wr m := by go_simp
      have hh2 := hup wr.drew hh
      clear hup
      go_region
      go_wp2_with fail
      have t9 : TlbIs (setBlock wr.drew m o) b m sl now (cut L e0.c e0.p) := by
        refine TW.out.sub _ ?_ (HA.out _ ?_)
        · simp (disch := (first | omega | (simp only [World.size_alloc, World.size_drew, World.size_setCell, size_setBlock] <;> omega) | fail)) only [blk_drew, blk_alloc_past, blk_alloc_at, blk_setCell_ne, blk_setCell_eq, blk_setBlock_ne, blk_setBlock_eq]
          exact TW.out.st
        · simp (disch := (first | omega | (simp only [World.size_alloc, World.size_drew, World.size_setCell, size_setBlock] <;> omega) | fail)) only [blk_drew, blk_alloc_past, blk_alloc_at, blk_setCell_ne, blk_setCell_eq, blk_setBlock_ne, blk_setBlock_eq]
      have f9 : ((bump (cut L e0.c e0.p) c p f r now).length : Int) ≤ sl := by
        have h1 : (cut L e0.c e0.p).length < L.length := by
          have := bump_len (c := e0.c) (p := e0.p) (f := 0) (r := 0) (now := 0) E1.out (by simp [En.is])
          simp only [bump, List.length_cons] at this
          exact this
        have h2 := List.length_filter_le (fun e => !e.is c p) (cut L e0.c e0.p)
        have h3 := HF.out
        simp only [bump, List.length_cons]
        omega
      refine (use_ok f r t9 ht hn f9).mono ?_
      rintro e w1 ⟨rfl, h1, g1⟩
      have b6 : blk w1 G = some (.cells #[.int .i64 e0.c, .int .u32 e0.p] 32 (0, 0)) := g1.blk' (by simp (disch := (first | omega | (simp only [World.size_alloc, World.size_drew, World.size_setCell, size_setBlock] <;> omega) | fail)) only [blk_drew, blk_alloc_past, blk_alloc_at, blk_setCell_ne, blk_setCell_eq, blk_setBlock_ne, blk_setBlock_eq]; exact X.out.2.2) (by omega)
      have gl1 := blk_lt b6
      obtain ⟨_, _, _, _, _, _, _, _, _, _, _, _, _, _, _, _, _, _⟩ := lts gl1
      have d2 := cell_of_blk b6 0
      have d3 := cell_of_blk b6 1
      have r2 := frozen_of_blk b6 0
      have r3 := frozen_of_blk b6 1
      simp only [List.getElem?_toArray, List.getElem?_cons_zero, List.getElem?_cons_succ] at d2 d3
      have HG1 := Lib.hid g1
      have H1 := Lib.hid h1
      clear g1 h1 b6 t9 f9 hh hh2
      go_wp2
      refine bodyPost_ret (v := .tuple #[.agg #[.int .i64 e0.c, .int .u32 e0.p], .bool true]) (by simp [results, Try.results14, go_sem, *]) rfl ⟨e0, E4.out, rfl, H1.out.frame (S := fun i => i = G) ?_ (by omega) (by omega), ?_⟩
      · repeat (first | exact Chg.refl _ _ | apply Chg.drew | (refine Chg.setCell ?_ (by simp) _) | (refine Chg.alloc ?_ _) | (refine Chg.setBlock ?_ (by simp) _))
      · refine Chg.step (S1 := fun i => i = b ∨ i = m) (S2 := fun i => i = G) (b := w1) (Chg.step (S1 := fun i => i = m) (b := setBlock wr.drew m o) (Chg.step (S1 := fun _ => False) (S2 := fun i => i = m) KH.out ?_ ?_ ?_) HG1.out ?_ ?_) ?_ ?_ ?_
        · repeat (first | exact Chg.refl _ _ | apply Chg.drew | (refine Chg.setCell ?_ (by simp) _) | (refine Chg.alloc ?_ _) | (refine Chg.setBlock ?_ (by simp) _))
        · exact fun i _ h => h.elim
        · exact fun i _ h => h
        · exact fun i _ h => .inr h
        · exact fun i _ h => h
        · repeat (first | exact Chg.refl _ _ | apply Chg.drew | (refine Chg.setCell ?_ (by simp) _) | (refine Chg.alloc ?_ _) | (refine Chg.setBlock ?_ (by simp) _))
        · exact fun i _ h => h
        · intro i hi h
          have := HG.out
          omega
    · intro e w1 hel hrg1 hc1 hz1 hent
      obtain ⟨hrm, hrr, hrne⟩ := hI.rg.lt
      have zz := Lib.hid hz1
      have c1' := Lib.hid hc1
      have hIH := Lib.hid hI
      have rg1 := Lib.hid hrg1
      have hGR : G ≠ R := by rw [HG.out, HRR.out]; omega
      have g1 := hc1.blk' hI.gone hGR
      have gl := blk_lt g1
      obtain ⟨_, _, _, _, _, _, _, _, _, _, _, _, _, _, _, _, _, _⟩ := lts gl
      have d0 := cell_of_blk g1 0
      have d1 := cell_of_blk g1 1
      have r0 := frozen_of_blk g1 0
      have r1 := frozen_of_blk g1 1
      simp only [List.getElem?_toArray, List.getElem?_cons_zero, List.getElem?_cons_succ] at d0 d1
      obtain ⟨u0, u1⟩ := H.out.le e (hI.sub e hel)
      obtain ⟨o0, o1⟩ := hI.rng
      have Hel := Lib.hid hel
      have g1 := Lib.hid g1
      clear hz1 hc1 hI hrg1 hel
      by_cases hlt : e.u < old
      · go_wp2
        go_region
        go_wp2
        go_roundg (left.erase e).length
        case measure =>
          have := Hgk.out
          rw [List.length_erase_of_mem Hel.out]
          have := List.length_pos_of_mem Hel.out
          omega
        case rel =>
          refine ⟨left.erase e, true, e.u, e.c, e.p, rfl, rfl, rfl, put_less hIH.out Hel.out hlt u0 (rg1.out.frame (S := fun i => i = G) ?_ (by have := HG.out; omega) (by omega)) ((hIH.out.chg.step (S := fun i => i = G ∨ i = R) c1'.out (fun i _ h => h) (fun i _ h => .inr h)).step (S2 := fun i => i = G) ?_ (fun i _ h => h) (fun i _ h => .inl h)) ?_⟩
          · repeat (first | exact Chg.refl _ _ | apply Chg.drew | (refine Chg.setCell ?_ (by simp) _) | (refine Chg.alloc ?_ _) | (refine Chg.setBlock ?_ (by simp) _))
          · repeat (first | exact Chg.refl _ _ | apply Chg.drew | (refine Chg.setCell ?_ (by simp) _) | (refine Chg.alloc ?_ _) | (refine Chg.setBlock ?_ (by simp) _))
          · simp (disch := (first | omega | (simp only [World.size_alloc, World.size_drew, World.size_setCell, size_setBlock] <;> omega) | fail)) only [blk_drew, blk_alloc_past, blk_alloc_at, blk_setCell_ne, blk_setCell_eq, blk_setBlock_ne, blk_setBlock_eq]
            rw [g1.out]
            simp only [Option.map_some, objSet_cells, List.set_cons_zero, List.set_cons_succ]
      · go_wp2
        go_roundg (left.erase e).length
        case measure =>
          have := Hgk.out
          rw [List.length_erase_of_mem Hel.out]
          have := List.length_pos_of_mem Hel.out
          omega
        case rel =>
          refine ⟨left.erase e, went, old, gc, gp, rfl, rfl, rfl, put_more hIH.out Hel.out (by omega) H.out.le (rg1.out.frame (S := fun i => i = G) ?_ (by have := HG.out; omega) (by omega)) ((hIH.out.chg.step (S := fun i => i = G ∨ i = R) c1'.out (fun i _ h => h) (fun i _ h => .inr h)).step (S2 := fun i => i = G) ?_ (fun i _ h => h) (fun i _ h => .inl h)) ?_⟩
          · repeat (first | exact Chg.refl _ _ | apply Chg.drew | (refine Chg.setCell ?_ (by simp) _) | (refine Chg.alloc ?_ _) | (refine Chg.setBlock ?_ (by simp) _))
          · repeat (first | exact Chg.refl _ _ | apply Chg.drew | (refine Chg.setCell ?_ (by simp) _) | (refine Chg.alloc ?_ _) | (refine Chg.setBlock ?_ (by simp) _))
          · simp (disch := (first | omega | (simp only [World.size_alloc, World.size_drew, World.size_setCell, size_setBlock] <;> omega) | fail)) only [blk_drew, blk_alloc_past, blk_alloc_at, blk_setCell_ne, blk_setCell_eq, blk_setBlock_ne, blk_setBlock_eq]
            rw [g1.out]
end Go.Proofs.Ytoglgkplddlemaa
