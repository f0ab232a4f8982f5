/- Contract of order$1 (which of two tags was used later) and of order: the tags, the one used last first. No condition. -/
import Derived.Test.YtoglgkplddlemaaTlbI
import Derived.Test.YtoglgkplddlemaaTlbJ0
import Derived.Test.YtoglgkplddlemaaLibSort
import Derived.Test.YtoglgkplddlemaaLibSep
import Derived.Shelf.SlSortCmp.NoneTotal
import Derived.BigQuiet
namespace Go.Proofs.Ytoglgkplddlemaa
open Go.RowKit Go.Cl Go.Shelf Go.Sort
open Go.Maps (Keyed)
set_option linter.unusedVariables false
set_option linter.unusedSimpArgs false
attribute [local go_sem] lt_add_one' blk_alloc_past blk_alloc_at blk_drew blk_setCell_ne

def encE (e : En) : List Value := [.int .i64 e.c, .int .u32 e.p]
theorem TlbIs.get {w : World} {b m : Nat} {sl now : Int} {L : List En} (h : TlbIs w b m sl now L) {e : En} (he : e ∈ L) :
    ∀ w' : World, blk w' m = blk w m → (Instr.lookup 82 (.map (some m)) (.agg #[.int .i64 e.c, .int .u32 e.p]) false).run Try.prog w' = .ok (.agg #[.int .u32 e.f, .int .u8 e.r, .int .u64 e.u]) w' := by
  have hm : (tagV e.c e.p, foundV e.f e.r e.u) ∈ L.map En.pair := List.mem_map.2 ⟨e, he, rfl⟩
  exact h.mp.look_hit tagKeyed Try.underlying82 (isKey_tag (h.tags e he)) hm false

theorem found_f1 (a b c : Int) (w : World) : (Instr.field 87 (.agg #[.int .u32 a, .int .u8 b, .int .u64 c]) 1).run Try.prog w = .ok (.int .u64 c) w := by kernel_rfl
theorem found_f0 (a b c : Int) (w : World) : (Instr.field 87 (.agg #[.int .u32 a, .int .u8 b, .int .u64 c]) 0).run Try.prog w = .ok (.agg #[.int .u32 a, .int .u8 b]) w := by kernel_rfl
attribute [local go_sem] found_f0 found_f1

def later (x y : En) : Int := if y.u < x.u then -1 else 1

set_option maxHeartbeats 1000000 in
set_option maxRecDepth 100000 in
theorem cmp_ok {W : World} {b m : Nat} {sl now : Int} {L : List En} {Bt : Nat} (h : TlbIs W b m sl now L) (hbt : blk W Bt = some (.cells #[.pointer (some ⟨b, 0, none⟩)] 25 (0, 0))) {x y : En} (hx : x ∈ L) (hy : y ∈ L) :
    Calls Try.prog 44 #[.agg #[.int .i64 x.c, .int .u32 x.p], .agg #[.int .i64 y.c, .int .u32 y.p], .pointer (some ⟨Bt, 0, none⟩)] W fun e w' => e = .returned (.int .i64 (later x y)) ∧ ∃ q os', w' = Sort.grow (W.drewN q) os' := by
  obtain ⟨-, -, hlt0, hltm0, c0, c1, c2, f2⟩ := h.facts
  obtain ⟨_, _, _, _, _, _, _, _, _, _, _, _, _, _, _, _, _, _⟩ := lts hlt0
  obtain ⟨_, _, _, _, _, _, _, _, _, _, _, _, _, _, _, _, _, _⟩ := lts hltm0
  have hlt1 := blk_lt hbt
  obtain ⟨_, _, _, _, _, _, _, _, _, _, _, _, _, _, _, _, _, _⟩ := lts hlt1
  have z0 := cell_of_blk hbt 0
  have lx := h.get hx
  have ly := h.get hy
  obtain ⟨xc, xp, xf, xr, xu⟩ := x
  obtain ⟨yc, yp, yf, yr, yu⟩ := y
  dsimp only at lx ly ⊢
  by_cases hlt : yu < xu
  · have e1 : later ⟨xc, xp, xf, xr, xu⟩ ⟨yc, yp, yf, yr, yu⟩ = -1 := if_pos hlt
    rw [e1]
    clear hx hy h e1
    go_enter Try.func44, Try.ntmps44
    go_wp2
    go_region
    go_wp2
    go_ret
    exact ⟨rfl, _, #[_, _], by rw [alloc_eq_grow, alloc_eq_grow, grow_grow]; rfl⟩
  · have e1 : later ⟨xc, xp, xf, xr, xu⟩ ⟨yc, yp, yf, yr, yu⟩ = 1 := if_neg hlt
    rw [e1]
    clear hx hy h e1
    go_enter Try.func44, Try.ntmps44
    go_wp2
    go_region
    go_wp2
    go_ret
    exact ⟨rfl, _, #[_, _], by rw [alloc_eq_grow, alloc_eq_grow, grow_grow]; rfl⟩

/-- Which of two entries of a list was used later: the order that the sort goes by. -/
theorem lt_later {L : List En} (x y : {e : En // e ∈ L}) : ltOf (fun x y : {e : En // e ∈ L} => later x.1 y.1) x y = decide (y.1.u < x.1.u) := by
  unfold ltOf later
  by_cases h : y.1.u < x.1.u
  · simp [h]
  · simp [h]
theorem swo_later (L : List En) : SWO (ltOf fun x y : {e : En // e ∈ L} => later x.1 y.1) where
  irrefl x := by rw [lt_later]; simp
  trans x y z h1 h2 := by rw [lt_later] at *; simp at *; omega
  ntrans x y z h1 h2 := by rw [lt_later] at *; simp at *; omega

theorem ord_uniq : ∀ {L : List En}, L.Pairwise (fun x y => y.u < x.u) → ∀ {a b : En}, a ∈ L → b ∈ L → a.u = b.u → a = b
  | x :: L, h, a, b, ha, hb, e => by
    obtain ⟨h1, h2⟩ := List.pairwise_cons.1 h
    rcases List.mem_cons.1 ha with ha | ha
    · rcases List.mem_cons.1 hb with hb | hb
      · rw [ha, hb]
      · have := h1 b hb
        rw [ha] at e
        omega
    · rcases List.mem_cons.1 hb with hb | hb
      · have := h1 a ha
        rw [hb] at e
        omega
      · exact ord_uniq h2 ha hb e

/-- A list that is sorted by use, of the same entries, is the list. -/
theorem sorted_eq {L l : List En} (ho : L.Pairwise (fun x y => y.u < x.u)) (hp : l.Perm L) (hs : l.Pairwise (fun x y => ¬ x.u < y.u)) : l = L :=
  hp.eq_of_pairwise (le := fun x y => y.u ≤ x.u) (fun a b ha hb h1 h2 => ord_uniq ho (hp.mem_iff.1 ha) hb (by omega)) (hs.imp fun h => by omega) (ho.imp fun h => by omega)
theorem sorted_pairwise {L : List En} [Inhabited {e : En // e ∈ L}] {d : Array {e : En // e ∈ L}} (h : SortedIn (ltOf fun x y : {e : En // e ∈ L} => later x.1 y.1) 0 d.size d) : (d.toList.map (·.1)).Pairwise (fun x y => ¬ x.u < y.u) := by
  rw [List.pairwise_map, List.pairwise_iff_getElem]
  intro i j hi hj hij
  have h1 := h i j (Nat.zero_le _) hij (by simpa using hj)
  rw [lt_later, getElem!_pos d i (by simpa using hi), getElem!_pos d j (by simpa using hj)] at h1
  simpa using h1
end Go.Proofs.Ytoglgkplddlemaa
