/- The law HoursNumbers, a closed sentence, comes out true; no condition. -/
import Derived.Test.YtmlhhcfkeooggaaPHoursNumbersx1
namespace Go.Proofs.Ytmlhhcfkeooggaa.Pure
open Go.RowKit Go.Proofs.Ytmlhhcfkeooggaa.PHoursNumbers Go.Proofs.YtmlhhcfkeooggaaW.PrintWords Go.Proofs.YtmlhhcfkeooggaaW.PrintLast

/-- YOURS: cloisterlaw18_HoursNumbers.f  = some true
What it reaches (each with k first where it has rounds; `.mono`: more rounds tell the same; `.l0`, ..: its loops, with `.mono_l`): cloisterlaw18_num.f, cloisterlaw18_HoursNumbers.f -/
theorem HoursNumbers : cloisterlaw18_HoursNumbers.Pure := by
  rfl

end Go.Proofs.Ytmlhhcfkeooggaa.Pure
