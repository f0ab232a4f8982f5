/- Bytes as a string; contract of the laws' 'same'. -/
import Derived.Test.YtenbkdmaiooldaaMemK
import Derived.Laws.BytesArg
namespace Go.Proofs.Ytenbkdmaiooldaa
open Go.RowKit Go.Cl
open Go.Maps (Keyed)
open Go.ChangeMaps (setBlock)
set_option linter.unusedVariables false
set_option linter.unusedSimpArgs false
attribute [local go_sem] lt_add_one' blk_alloc_past blk_alloc_at blk_drew blk_setCell_ne blk_setBlock_ne blk_setBlock_eq cell_setBlock_ne frozen_setBlock_ne size_setBlock

theorem conv_bytes {w : World} {oa : Option Addr} {xs : List Int} {cap : Nat} (h : BytesAt w oa xs) :
    ∀ w' : World, (∀ a, oa = some a → blk w' a.block = blk w a.block) → (convert 58 9 (.slice oa xs.length cap)).run Try.prog w' = .ok (.string (strOfNums xs)) w' := fun w' hb => by
  cases oa with
  | none =>
    have : xs = [] := by
      cases xs with
      | nil => rfl
      | cons b l =>
        obtain ⟨a, h, _⟩ := h 0 b rfl
        cases h
    subst this
    rw [run_convert_bytes_nil w' 58 5 Try.underlying58 Try.underlying5 _ _ 9 Try.underlying9]
    rfl
  | some a =>
    have hl : (loadCells a xs.length).run Try.prog w' = .ok (xs.map (Value.int .u8)).toArray w' := by
      have := run_loadCells_list (P := Try.prog) w' a (xs.map (Value.int .u8)) (fun j v hj => by
        rw [List.getElem?_map] at hj
        obtain ⟨b, hb', rfl⟩ := Option.map_eq_some_iff.1 hj
        obtain ⟨a', ha', hc, _⟩ := h j b hb'
        obtain rfl := Option.some.inj ha'
        have e : (a.add j).block = a.block := by unfold Addr.add; split <;> rfl
        exact (World.cell?_of_block (w := w) (a := a.add j) (by rw [e]; exact hb a rfl)).trans hc)
      simpa using this
    rw [run_convert_bytes_string w' 58 9 5 _ _ cap Try.underlying58 Try.underlying5 Try.underlying9, run_bytesToString w' _ _ cap xs hl, foldl_push_bytes]
    simp [strOfNums, ByteArray.empty, ByteArray.emptyWithCapacity]
    rfl

theorem strOfNums_inj {xs ys : List Int} (hx : ∀ b ∈ xs, 0 ≤ b ∧ b ≤ 255) (hy : ∀ b ∈ ys, 0 ≤ b ∧ b ≤ 255) (h : strOfNums xs = strOfNums ys) : xs = ys := by
  have h1 : (strOfNums xs).data.toList = (strOfNums ys).data.toList := by rw [h]
  rw [strOfNums_data, strOfNums_data] at h1
  have hl : xs.length = ys.length := by simpa using congrArg List.length h1
  refine List.ext_getElem hl fun i hi hi' => ?_
  have h2 := congrArg (fun l => l[i]?) h1
  simp only [List.getElem?_map, List.getElem?_eq_getElem hi, List.getElem?_eq_getElem hi', Option.map_some, Option.some.injEq] at h2
  have a1 := hx _ (List.getElem_mem hi)
  have a2 := hy _ (List.getElem_mem hi')
  have h3 := congrArg UInt8.toNat h2
  simp only [UInt8.toNat_ofNat'] at h3
  omega

theorem bytes_bd {w : World} {oa : Option Addr} {xs : List Int} (h : BytesAt w oa xs) : ∀ b ∈ xs, 0 ≤ b ∧ b ≤ 255 := fun b hb => by
  obtain ⟨j, hj, rfl⟩ := List.getElem_of_mem hb
  obtain ⟨_, _, _, h1, h2⟩ := h j _ (List.getElem?_eq_getElem hj)
  exact ⟨h1, h2⟩

set_option maxHeartbeats 1000000 in
set_option maxRecDepth 100000 in
theorem same_ok {w : World} {oa ob : Option Addr} {xs ys : List Int} {ca cb : Nat} (hx : BytesAt w oa xs) (hy : BytesAt w ob ys) :
    Calls Try.prog 37 #[.slice oa xs.length ca, .slice ob ys.length cb] w fun e w' => e = .returned (.bool (decide (xs = ys))) ∧ w = w' := by
  have h1 := conv_bytes (cap := ca) hx w (fun _ _ => rfl)
  have h2 := conv_bytes (cap := cb) hy w (fun _ _ => rfl)
  have hs : ((strOfNums xs).toList == (strOfNums ys).toList) = decide (xs = ys) := by
    rw [ByteArray.toList_eq, ByteArray.toList_eq]
    by_cases he : xs = ys
    · rw [he]; simp
    · rw [decide_eq_false he]
      have : (strOfNums xs).data.toList ≠ (strOfNums ys).data.toList := fun h => he (strOfNums_inj (bytes_bd hx) (bytes_bd hy) (by
        have h2 : (strOfNums xs).data = (strOfNums ys).data := Array.ext' h
        cases hA : strOfNums xs
        cases hB : strOfNums ys
        rw [hA, hB] at h2
        simp only at h2
        rw [h2]))
      simpa using this
  rw [← hs]
  clear hs hx hy
  go_enter Try.func37, Try.ntmps37
  go_wp2
  go_ret
  exact ⟨rfl, rfl⟩
end Go.Proofs.Ytenbkdmaiooldaa
