/- The statement OrderNames: the closed sentence over the names, numbers and errors of its chapter is true; no condition. -/
import Derived.Test.YtjjdpdcdpohcgaaPOrderNamesx1
namespace Go.Proofs.Ytjjdpdcdpohcgaa.Pure
open Go.RowKit Go.Proofs.Ytjjdpdcdpohcgaa.POrderNames Go.Proofs.YtjjdpdcdpohcgaaW.PrintWords Go.Proofs.YtjjdpdcdpohcgaaW.PrintLast

/-- YOURS: hallmarklaw6_OrderNames.f  = some true
What it reaches (each with k first where it has rounds; `.mono`: more rounds tell the same; `.l0`, ..: its loops, with `.mono_l`): hallmarklaw6_OrderNames.f -/
theorem OrderNames : hallmarklaw6_OrderNames.Pure := by
  rfl

end Go.Proofs.Ytjjdpdcdpohcgaa.Pure
