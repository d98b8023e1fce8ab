/- The statement PropNames: the closed sentence over the names, numbers and errors of its chapter is true; no condition. -/
import Derived.Test.YtjjdpdcdpohcgaaPPropNamesx1
namespace Go.Proofs.Ytjjdpdcdpohcgaa.Pure
open Go.RowKit Go.Proofs.Ytjjdpdcdpohcgaa.PPropNames Go.Proofs.YtjjdpdcdpohcgaaW.PrintWords Go.Proofs.YtjjdpdcdpohcgaaW.PrintLast

/-- YOURS: hallmarklaw12_PropNames.f  = some true
What it reaches (each with k first where it has rounds; `.mono`: more rounds tell the same; `.l0`, ..: its loops, with `.mono_l`): hallmarklaw12_PropNames.f -/
theorem PropNames : hallmarklaw12_PropNames.Pure := by
  rfl

end Go.Proofs.Ytjjdpdcdpohcgaa.Pure
