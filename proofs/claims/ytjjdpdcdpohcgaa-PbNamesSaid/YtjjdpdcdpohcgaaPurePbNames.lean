/- The statement PbNames: the closed sentence over the names, numbers and errors of its chapter is true; no condition. -/
import Derived.Test.YtjjdpdcdpohcgaaPPbNamesx1
namespace Go.Proofs.Ytjjdpdcdpohcgaa.Pure
open Go.RowKit Go.Proofs.Ytjjdpdcdpohcgaa.PPbNames Go.Proofs.YtjjdpdcdpohcgaaW.PrintWords Go.Proofs.YtjjdpdcdpohcgaaW.PrintLast

/-- YOURS: hallmarklaw2_PbNames.f  = some true
What it reaches (each with k first where it has rounds; `.mono`: more rounds tell the same; `.l0`, ..: its loops, with `.mono_l`): hallmarklaw2_PbNames.f -/
theorem PbNames : hallmarklaw2_PbNames.Pure := by
  rfl

end Go.Proofs.Ytjjdpdcdpohcgaa.Pure
