/- The laws' argument of puts, read. No condition. -/
import Derived.Test.YtenbkdmaiooldaaMemL
import Derived.Test.YtenbkdmaiooldaaLibRead
namespace Go.Proofs.Ytenbkdmaiooldaa
open Go.RowKit Go.Cl
set_option linter.unusedVariables false

abbrev PutT := Int × Int × Int × Int × Int × List Int
abbrev rPut : Rd PutT := rStruct6 1 1 1 1 1 1 (rInt .i64) (rInt .i64) (rInt .i64) (rInt .i64) (rInt .u32) (rSlice 1 (rInt .u8))
theorem dBytes : Decodes Try.prog 58 (rSlice 1 (rInt .u8)) := dSlice Try.underlying58 (by kernel_rfl) (dInt Try.underlying5)
theorem dPut : Decodes Try.prog 64 rPut := dStruct6 Try.underlying64 (by kernel_rfl) ⟨rfl, by kernel_rfl⟩ ⟨rfl, by kernel_rfl⟩ ⟨rfl, by kernel_rfl⟩ ⟨rfl, by kernel_rfl⟩ ⟨rfl, by kernel_rfl⟩ ⟨rfl, by kernel_rfl⟩
  (dInt Try.underlying3) (dInt Try.underlying3) (dInt Try.underlying3) (dInt Try.underlying3) (dInt Try.underlying22) dBytes
theorem dPuts : Decodes Try.prog 62 (rSlice 6 rPut) := dSlice Try.underlying62 (by kernel_rfl) dPut

/-- A slice of bytes. -/
def BytesSl (w : World) (v : Value) (xs : List Int) : Prop := ∃ ob c, v = .slice ob xs.length c ∧ xs.length ≤ c ∧ c ≤ maxLen ∧ (ob = none → c = 0) ∧ BytesAt w ob xs

theorem bytes_sl {w : World} {v : Value} {xs : List Int} (h : rSlice 1 (rInt .u8) w [v] xs) : BytesSl w v xs := by
  rcases h with ⟨rfl, h2⟩ | ⟨a, cap, h1, h2, h3, h4⟩
  · simp at h2
    exact ⟨none, 0, h2, by simp, by simp, fun _ => rfl, fun j b hb => by simp at hb⟩
  · simp at h1
    refine ⟨some a, cap, h1, h2, h3, (fun h => by cases h), fun i x hx => ⟨a, rfl, ?_⟩⟩
    obtain ⟨c, ⟨rfl, hwf⟩, hl, hat⟩ := h4 i x hx
    refine ⟨by simpa using hat 0 _ rfl, ?_⟩
    simp [Lit.wf, IntKind.min, IntKind.max, IntKind.signed, IntKind.bits] at hwf
    omega

theorem BytesSl.frame {S : Nat → Prop} {w w' : World} {v : Value} {x : List Int} (h : BytesSl w v x) (hc : Chg S w w') (hs : ∀ i, i < w.heap.size → ¬ S i) : BytesSl w' v x := by
  obtain ⟨ob, c, h1, h2, h3, h4, h5⟩ := h
  exact ⟨ob, c, h1, h2, h3, h4, h5.frame hc hs⟩

theorem i64_of {n : Int} (h : (Lit.int .i64 n).wf = true) : I64 n := by
  simp [Lit.wf, IntKind.min, IntKind.max, IntKind.signed, IntKind.bits] at h; unfold I64; omega
theorem u32_of {n : Int} (h : (Lit.int .u32 n).wf = true) : 0 ≤ n ∧ n < 4294967296 := by
  simp [Lit.wf, IntKind.min, IntKind.max, IntKind.signed, IntKind.bits] at h; omega

def PutOk (p : PutT) : Prop := I64 p.1 ∧ I64 p.2.1 ∧ I64 p.2.2.1 ∧ I64 p.2.2.2.1 ∧ 0 ≤ p.2.2.2.2.1 ∧ p.2.2.2.2.1 < 4294967296

/-- A slice of puts. -/
def PutsAre (w : World) (v : Value) (ps : List PutT) : Prop :=
  ∃ (oa : Option Addr) (cap : Nat), v = .slice oa ps.length cap ∧ ps.length ≤ cap ∧ cap ≤ maxLen ∧ ∀ i p, ps[i]? = some p → ∃ a dv, oa = some a ∧
    w.cell? (a.add (i * 6)) = some (.int .i64 p.1) ∧ w.cell? (a.add (i * 6 + 1)) = some (.int .i64 p.2.1) ∧ w.cell? (a.add (i * 6 + 2)) = some (.int .i64 p.2.2.1) ∧ w.cell? (a.add (i * 6 + 3)) = some (.int .i64 p.2.2.2.1) ∧
    w.cell? (a.add (i * 6 + 4)) = some (.int .u32 p.2.2.2.2.1) ∧ w.cell? (a.add (i * 6 + 5)) = some dv ∧ BytesSl w dv p.2.2.2.2.2 ∧ PutOk p

theorem put_cells {w : World} {c : List Value} {p : PutT} (h : rPut w c p) : ∃ dv, c = [.int .i64 p.1, .int .i64 p.2.1, .int .i64 p.2.2.1, .int .i64 p.2.2.2.1, .int .u32 p.2.2.2.2.1, dv] ∧ BytesSl w dv p.2.2.2.2.2 ∧ PutOk p := by
  obtain ⟨hl, ⟨h0, w0⟩, ⟨h1, w1⟩, ⟨h2, w2⟩, ⟨h3, w3⟩, ⟨h4, w4⟩, h5⟩ := h
  match c, hl with
  | [x0, x1, x2, x3, x4, x5], _ =>
    simp at h0 h1 h2 h3 h4
    subst h0 h1 h2 h3 h4
    exact ⟨x5, rfl, bytes_sl (by simpa using h5), i64_of w0, i64_of w1, i64_of w2, i64_of w3, (u32_of w4).1, (u32_of w4).2⟩

theorem puts_are {w : World} {v : Value} {ps : List PutT} (h : rSlice 6 rPut w [v] ps) : PutsAre w v ps := by
  rcases h with ⟨rfl, h2⟩ | ⟨a, cap, h1, h2, h3, h4⟩
  · simp at h2
    exact ⟨none, 0, h2, by simp, by simp, fun i p hp => by simp at hp⟩
  · simp at h1
    refine ⟨some a, cap, h1, h2, h3, fun i p hp => ?_⟩
    obtain ⟨c, hc, hl, hat⟩ := h4 i p hp
    obtain ⟨dv, rfl, hb, hok⟩ := put_cells hc
    exact ⟨a, dv, rfl, hat 0 _ rfl, hat 1 _ rfl, hat 2 _ rfl, hat 3 _ rfl, hat 4 _ rfl, hat 5 _ rfl, hb, hok⟩

set_option maxRecDepth 100000 in
theorem open_puts {H : Type} {enc : TypeId × Value → H} {w : World} {b0 base : Nat} {sp : Nat → Bool} {held : Bool} {v : Value} {d : DataW H} {p : List MemPlace}
    (hok : Value.okWide Try.prog w .any b0 62 v) (h : DataW.Trod enc Try.prog w base sp held 62 v d p) : ∃ us, PutsAre w v us := by
  obtain ⟨us, hu⟩ := decode_slice Try.underlying62 dPuts hok h
  exact ⟨us, puts_are hu⟩
end Go.Proofs.Ytenbkdmaiooldaa
