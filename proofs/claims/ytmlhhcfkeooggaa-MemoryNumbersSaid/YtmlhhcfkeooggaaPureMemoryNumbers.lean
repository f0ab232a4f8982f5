/- The law MemoryNumbers, a closed sentence, comes out true; no condition. -/
import Derived.Test.YtmlhhcfkeooggaaPMemoryNumbersx1
namespace Go.Proofs.Ytmlhhcfkeooggaa.Pure
open Go.RowKit Go.Proofs.Ytmlhhcfkeooggaa.PMemoryNumbers Go.Proofs.YtmlhhcfkeooggaaW.PrintWords Go.Proofs.YtmlhhcfkeooggaaW.PrintLast

/-- YOURS: cloisterlaw2_MemoryNumbers.f  = some true
What it reaches (each with k first where it has rounds; `.mono`: more rounds tell the same; `.l0`, ..: its loops, with `.mono_l`): cloisterlaw2_num.f, cloisterlaw2_MemoryNumbers.f -/
theorem MemoryNumbers : cloisterlaw2_MemoryNumbers.Pure := by
  rfl

end Go.Proofs.Ytmlhhcfkeooggaa.Pure
