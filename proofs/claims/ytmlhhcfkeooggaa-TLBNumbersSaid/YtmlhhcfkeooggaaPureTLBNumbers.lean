/- The law TLBNumbers, a closed sentence, comes out true; no condition. -/
import Derived.Test.YtmlhhcfkeooggaaPTLBNumbersx1
namespace Go.Proofs.Ytmlhhcfkeooggaa.Pure
open Go.RowKit Go.Proofs.Ytmlhhcfkeooggaa.PTLBNumbers Go.Proofs.YtmlhhcfkeooggaaW.PrintWords Go.Proofs.YtmlhhcfkeooggaaW.PrintLast

/-- YOURS: cloisterlaw5_TLBNumbers.f  = some true
What it reaches (each with k first where it has rounds; `.mono`: more rounds tell the same; `.l0`, ..: its loops, with `.mono_l`): cloisterlaw5_num.f, cloisterlaw5_TLBNumbers.f -/
theorem TLBNumbers : cloisterlaw5_TLBNumbers.Pure := by
  rfl

end Go.Proofs.Ytmlhhcfkeooggaa.Pure
