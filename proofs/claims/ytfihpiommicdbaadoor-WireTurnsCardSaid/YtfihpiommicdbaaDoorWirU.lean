/- The laws' arguments read: bytes, with their reach. No condition. -/
import Derived.Test.YtfihpiommicdbaaDoorWirT
import Derived.Test.YtfihpiommicdbaaDoorWirB
import Derived.SizedLaws
namespace Go.Proofs.YtfihpiommicdbaaDoor
open Go.RowKit Go.Cl Go.ChangeShapes Go.WideShapes Go.Deep
set_option linter.unusedVariables false

theorem i64_of {n : Int} (h : (Lit.int .i64 n).wf = true) : I64 n := by
  simp [Lit.wf, IntKind.min, IntKind.max, IntKind.signed, IntKind.bits] at h; unfold I64; omega
theorem u32_of {n : Int} (h : (Lit.int .u32 n).wf = true) : 0 ≤ n ∧ n < 4294967296 := by
  simp [Lit.wf, IntKind.min, IntKind.max, IntKind.signed, IntKind.bits] at h; omega
theorem dBytes : Decodes Tryd.prog 24 (rSlice 1 (rInt .u8)) := dSlice Tryd.underlying24 (by kernel_rfl) (dInt Tryd.underlying5)
theorem bytesOf5 : Tryd.prog.bytesOf 5 = 1 := by kernel_rfl

set_option maxRecDepth 100000 in
theorem open_bytes {H : Type} {enc : TypeId × Value → H} {w : World} {b0 base : Nat} {sp : Nat → Bool} {held : Bool} {v : Value} {d : DataW H} {p : List MemPlace}
    (hok : Value.okWide Tryd.prog w .any b0 24 v) (h : DataW.Trod enc Tryd.prog w base sp held 24 v d p) (hz : ∀ elems spare, d = .slice elems spare → (elems.length + spare.length) * Tryd.prog.bytesOf 5 ≤ reachBytes) : ∃ us, BytesIs w v us ∧ us.length ≤ 140737488355328 := by
  obtain ⟨us, hu⟩ := decode_slice Tryd.underlying24 dBytes hok h
  refine ⟨us, nums_bytes (nums_are hu), ?_⟩
  obtain ⟨a, len, cap, rfl⟩ := okWide_slice Tryd.underlying24 hok
  obtain ⟨oa, cap', hv, _⟩ := nums_are hu
  simp only [Value.slice.injEq] at hv
  obtain ⟨_, hl, _⟩ := hv
  obtain ⟨m, hm⟩ := h
  rcases open_slice Tryd.underlying24 hm with ⟨hcs, _⟩ | ⟨a, len', cap2, m2, n', D, Pl, hcs, _, hl2, hm2, hmm, hx, _⟩
  · simp [Value.cells] at hcs
    omega
  · simp only [Value.cells, List.cons.injEq, Value.slice.injEq, and_true] at hcs
    have h2 := hz _ _ (Prod.mk.inj hx).1
    rw [bytesOf5, List.length_map, List.length_range] at h2
    have := reachBytes_lt
    omega
end Go.Proofs.YtfihpiommicdbaaDoor
