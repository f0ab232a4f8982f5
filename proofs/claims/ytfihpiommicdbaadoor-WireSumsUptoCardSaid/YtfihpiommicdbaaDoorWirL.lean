/- One part alone. No condition. -/
import Derived.Test.YtfihpiommicdbaaDoorWirK
namespace Go.Proofs.YtfihpiommicdbaaDoor
open Go.RowKit Go.Cl
namespace Sgl
theorem parts_one {w : World} {g : Nat} {v : Value} {x : List Int} {t : TypeId} {fr : Nat × Nat} (hb : blk w g = some (.cells #[v] t fr)) (hx : BytesIs w v x) : PartsAre w (some ⟨g, 0, none⟩) [x] := by
  intro i y hy
  match i, hy with
  | 0, hy =>
    simp at hy
    subst hy
    exact ⟨_, v, rfl, by rw [addr_add, cell_of_blk hb]; rfl, hx⟩
  | n + 1, hy => simp at hy
theorem cat_one (x : List Int) : cat [x] = x := by simp [cat]
end Sgl
end Go.Proofs.YtfihpiommicdbaaDoor
