/- The law ArenaNumbers, a closed sentence, comes out true; no condition. -/
import Derived.Test.YtmlhhcfkeooggaaPArenaNumbersx1
namespace Go.Proofs.Ytmlhhcfkeooggaa.Pure
open Go.RowKit Go.Proofs.Ytmlhhcfkeooggaa.PArenaNumbers Go.Proofs.YtmlhhcfkeooggaaW.PrintWords Go.Proofs.YtmlhhcfkeooggaaW.PrintLast

/-- YOURS: cloisterlaw6_ArenaNumbers.f  = some true
What it reaches (each with k first where it has rounds; `.mono`: more rounds tell the same; `.l0`, ..: its loops, with `.mono_l`): cloisterlaw6_num.f, cloisterlaw6_ArenaNumbers.f -/
theorem ArenaNumbers : cloisterlaw6_ArenaNumbers.Pure := by
  rfl

end Go.Proofs.Ytmlhhcfkeooggaa.Pure
