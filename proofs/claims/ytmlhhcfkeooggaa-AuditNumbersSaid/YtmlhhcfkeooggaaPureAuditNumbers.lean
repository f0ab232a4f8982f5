/- The law AuditNumbers, a closed sentence, comes out true; no condition. -/
import Derived.Test.YtmlhhcfkeooggaaPAuditNumbersx1
namespace Go.Proofs.Ytmlhhcfkeooggaa.Pure
open Go.RowKit Go.Proofs.Ytmlhhcfkeooggaa.PAuditNumbers Go.Proofs.YtmlhhcfkeooggaaW.PrintWords Go.Proofs.YtmlhhcfkeooggaaW.PrintLast

/-- YOURS: cloisterlaw26_AuditNumbers.f  = some true
What it reaches (each with k first where it has rounds; `.mono`: more rounds tell the same; `.l0`, ..: its loops, with `.mono_l`): cloisterlaw26_num.f, cloisterlaw26_AuditNumbers.f -/
theorem AuditNumbers : cloisterlaw26_AuditNumbers.Pure := by
  rfl

end Go.Proofs.Ytmlhhcfkeooggaa.Pure
