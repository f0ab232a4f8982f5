/- Bytes as strings: a conversion of a slice of bytes, whatever its source. Generic: no program. No condition. -/
import Derived.Test.YtenbkdmaiooldaaLibMore
import Derived.Laws.BytesArg
namespace Go.Cl
theorem foldl_push_bytes (xs : List Int) : ∀ s : ByteArray, xs.foldl (fun r n => r.push (UInt8.ofNat n.toNat)) s = ⟨s.data ++ (xs.map fun n => UInt8.ofNat n.toNat).toArray⟩ := by
  induction xs with
  | nil => intro s; simp
  | cons x xs ih =>
    intro s
    rw [List.foldl_cons, ih]
    simp [ByteArray.push]

theorem conv_src {P : Program} {w : World} {t e s : TypeId} (ht : P.underlying t = some (.slice e)) (he : P.underlying e = some (.int .u8)) (hs : P.underlying s = some .string) {oa : Option Addr} {xs : List Int} (h : SrcIs w 1 oa xs.length (xs.map (Value.int .u8))) (cap : Nat) :
    (convert t s (.slice oa xs.length cap)).run P w = .ok (.string (strOfNums xs)) w := by
  obtain ⟨h1, h2, ⟨rfl, h3⟩ | ⟨a, rfl, h3⟩⟩ := h
  · obtain rfl : xs = [] := List.length_eq_zero_iff.1 h3
    rw [run_convert_bytes_nil w t e ht he _ _ s hs]
    rfl
  · have hl : (loadCells a xs.length).run P w = .ok (xs.map (Value.int .u8)).toArray w := by
      have := run_loadCells_list (P := P) w a (xs.map (Value.int .u8)) h3
      simpa using this
    rw [run_convert_bytes_string w t s e _ _ cap ht he hs, run_bytesToString w _ _ cap xs hl, foldl_push_bytes]
    simp [strOfNums, ByteArray.empty, ByteArray.emptyWithCapacity]
    rfl

theorem strOfNums_inj {xs ys : List Int} (hx : ∀ b ∈ xs, 0 ≤ b ∧ b ≤ 255) (hy : ∀ b ∈ ys, 0 ≤ b ∧ b ≤ 255) (h : strOfNums xs = strOfNums ys) : xs = ys := by
  have h1 : (strOfNums xs).data.toList = (strOfNums ys).data.toList := by rw [h]
  rw [strOfNums_data, strOfNums_data] at h1
  have hl : xs.length = ys.length := by simpa using congrArg List.length h1
  apply List.ext_getElem hl
  intro i hi hj
  have h2 : (xs.map fun n => UInt8.ofNat n.toNat)[i]? = (ys.map fun n => UInt8.ofNat n.toNat)[i]? := by rw [h1]
  rw [List.getElem?_map, List.getElem?_map, List.getElem?_eq_getElem hi, List.getElem?_eq_getElem hj] at h2
  simp only [Option.map_some, Option.some.injEq] at h2
  have a := hx _ (List.getElem_mem hi)
  have b := hy _ (List.getElem_mem hj)
  have h3 := congrArg UInt8.toNat h2
  simp only [UInt8.toNat_ofNat'] at h3
  omega
end Go.Cl
