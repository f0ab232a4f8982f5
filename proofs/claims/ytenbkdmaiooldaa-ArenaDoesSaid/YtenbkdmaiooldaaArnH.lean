/- The law's world: two memories, arenas on them, all beside each other. No condition. -/
import Derived.Test.YtenbkdmaiooldaaArnG
namespace Go.Proofs.Ytenbkdmaiooldaa
open Go.RowKit Go.Cl
set_option linter.unusedVariables false
set_option linter.unusedSimpArgs false
attribute [local go_sem] lt_add_one' blk_alloc_past blk_alloc_at blk_drew blk_setCell_ne

set_option maxRecDepth 100000 in
theorem infob : ∃ i, Try.prog.info? 58 = some i ∧ i.zero = some (.slice none 0 0) ∧ i.size = 1 ∧ i.bytes = 24 := ⟨_, rfl, by kernel_rfl, by kernel_rfl, by kernel_rfl⟩
theorem make_pages (n : Nat) (hn : n ≤ 4096) : ∀ w' : World, (Instr.makeSlice 85 (.int .i64 n) (.int .i64 n)).run Try.prog w' = .ok (.slice (some ⟨w'.heap.size, 0, none⟩) n n) (w'.alloc (.cells ((List.replicate n none).map pageV).toArray 58 (0, 0))) := fun w' => by
  obtain ⟨i, hi, hz, hs, hb⟩ := infob
  have := run_make (P := Try.prog) w' 85 58 i (.slice none 0 0) Try.underlying85 hi hz .i64 .i64 n n (by omega) (Int.le_refl _) (by rw [hb]; omega) (by omega)
  rw [this, hs]
  simp only [Int.toNat_natCast, Nat.mul_one]
  have e : madeCells (Value.slice none 0 0).cells n = ((List.replicate n none).map pageV).toArray := by
    apply Array.ext'
    apply List.ext_getElem?
    intro j
    by_cases hj : j < n
    · simp [madeCells, hj, Value.cells, Nat.mod_one, pageV]
    · rw [List.getElem?_eq_none (by simp [madeCells]; omega), List.getElem?_eq_none (by simp; omega)]
  rw [e]

set_option maxHeartbeats 1000000 in
set_option maxRecDepth 100000 in
theorem rNew_ok {w : World} (n : Nat) (h1 : 1 ≤ n) (h2 : n ≤ 4096) :
    Calls Try.prog 24 #[.int .i64 n] w fun e w' => ∃ b R, e = .returned (.tuple #[.pointer (some ⟨b, 0, none⟩), .int .i64 0]) ∧ RefIs w' w.heap.size b R (List.replicate n none) (fun _ => 0) ∧ Chg (fun _ => False) w w' := by
  have k1 : ¬ (n : Int) < 1 := by omega
  have k2 : ¬ (4096 : Int) < (n : Int) := by omega
  have hmk := make_pages n h2 w
  have HN := Lib.hid (And.intro h1 h2)
  obtain ⟨Z, hZ⟩ : ∃ Z, Z = ((List.replicate n none).map pageV).toArray := ⟨_, rfl⟩
  have HZ := Lib.hid hZ
  rw [← hZ] at hmk
  clear h1 h2 hZ
  go_enter Try.func24, Try.ntmps24
  go_wp2
  go_ret2
  refine ⟨_, rfl, ⟨w.heap.size, ?_, ?_, fun k g hg => ?_, fun k hk i hi => rfl, fun k k' g hg => ?_, fun i => by omega, by rw [List.length_replicate]; exact HN.out, ?_, Nat.le_refl _⟩, ((Chg.refl _ _).alloc _).alloc _⟩
  · rw [List.length_replicate]
    exact blk_alloc_at _ _ _ (by simp)
  · rw [blk_alloc_past _ _ _ (by simp), ← HZ.out]
    exact blk_alloc_at _ _ _ rfl
  · rw [List.getElem?_replicate] at hg
    split at hg <;> simp at hg
  · rw [List.getElem?_replicate] at hg
    split at hg <;> simp at hg
  · simp

/-- The two first are turned together. -/
theorem _root_.Go.Cl.Sep.put2 {S : Nat → Prop} {base : Nat} {w w' : World} {t u t' u' : Thing} {L : List Thing} (h : Go.Cl.Sep base w (t :: u :: L)) (hb : base ≤ w.heap.size) (hc : Chg S w w') (hs : ∀ i, i < w.heap.size → S i → t.foot i ∨ u.foot i) (ht : t'.holds w') (hu : u'.holds w') (hft : ∀ i, t'.foot i → t.foot i ∨ w.heap.size ≤ i) (hfu : ∀ i, u'.foot i → u.foot i) : Go.Cl.Sep base w' (t' :: u' :: L) := by
  have h1 := List.pairwise_cons.1 h.apart
  have h2 := List.pairwise_cons.1 h1.2
  have old : ∀ x ∈ t :: u :: L, ∀ i, x.foot i → i < w.heap.size := fun x hx i hi => x.old (h.all x hx) hi
  refine ⟨fun x hx => ?_, fun x hx i hi => ?_, List.pairwise_cons.2 ⟨fun x hx i hi hj => ?_, List.pairwise_cons.2 ⟨fun x hx i hi hj => ?_, h2.2⟩⟩⟩
  · rcases List.mem_cons.1 hx with rfl | hx
    · exact ht
    rcases List.mem_cons.1 hx with rfl | hx
    · exact hu
    · exact x.stable (h.all x (by simp [hx])) hc fun i hi hsi => (hs i (old x (by simp [hx]) i hi) hsi).elim (fun e => h1.1 x (by simp [hx]) i e hi) (fun e => h2.1 x hx i e hi)
  · rcases List.mem_cons.1 hx with rfl | hx
    · rcases hft i hi with e | e
      · exact h.above t (by simp) i e
      · omega
    rcases List.mem_cons.1 hx with rfl | hx
    · exact h.above u (by simp) i (hfu i hi)
    · exact h.above x (by simp [hx]) i hi
  · rcases List.mem_cons.1 hx with rfl | hx
    · have hj := hfu i hj
      rcases hft i hi with e | e
      · exact h1.1 u (by simp) i e hj
      · have := old u (by simp) i hj
        omega
    · rcases hft i hi with e | e
      · exact h1.1 x (by simp [hx]) i e hj
      · have := old x (by simp [hx]) i hj
        omega
  · exact h2.1 x hx i (hfu i hi) hj

/-- The memories among things that lie apart. -/
def memT (b m : Nat) (pg : List (Nat × Nat)) (mp : Nat) (f : Nat → Int) : Thing := ⟨fun w => MemIs w b m pg mp f, Foot b m pg, fun h hc hs => h.frame hc hs, fun h hi => h.lt _ hi⟩
def refT (base n R : Nat) (qs : List (Option Nat)) (f : Nat → Int) : Thing := ⟨fun w => RefIs w base n R qs f, RefFoot n R qs, fun h hc hs => h.frame hc hs, fun h hi => (h.foot hi).2⟩
abbrev arO (b base pages taken : Nat) (sealed : Bool) : Obj := .cells #[ptrV b, .int .u32 base, .int .i64 pages, .int .i64 taken, .bool sealed] 103 (0, 0)
abbrev rarO (n base pages given : Nat) (closed : Bool) : Obj := .cells #[.pointer (some ⟨n, 0, none⟩), .int .u32 base, .int .i64 pages, .int .i64 given, .bool closed] 111 (0, 0)
def PairOk (mp base pages taken : Nat) : Prop := base % 4096 = 0 ∧ base < 4294967296 ∧ taken ≤ pages ∧ pages ≤ 4096 ∧ base + pages * 4096 ≤ mp * 4096
/-- Two arenas that are one another's answer; or none. -/
def Pr (mp b n : Nat) : Option (Nat × Nat) → List Thing → Prop
  | none, L => L = []
  | some (a, r), L => ∃ base pages taken sealed, PairOk mp base pages taken ∧ L = [blkT a (arO b base pages taken sealed), blkT r (rarO n base pages taken sealed)]
def ptrO (o : Option Nat) : Value := .pointer (o.map fun a => ⟨a, 0, none⟩)
abbrev wO (b n : Nat) (p q : Option (Nat × Nat)) : Obj := .cells #[ptrV b, .pointer (some ⟨n, 0, none⟩), ptrO (p.map (·.1)), ptrO (p.map (·.2)), ptrO (q.map (·.1)), ptrO (q.map (·.2))] 50 (0, 0)
end Go.Proofs.Ytenbkdmaiooldaa
