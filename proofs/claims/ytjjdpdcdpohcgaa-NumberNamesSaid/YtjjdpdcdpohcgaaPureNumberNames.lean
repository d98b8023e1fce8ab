/- The statement NumberNames: the closed sentence over the names, numbers and errors of its chapter is true; no condition. -/
import Derived.Test.YtjjdpdcdpohcgaaPNumberNamesx1
namespace Go.Proofs.Ytjjdpdcdpohcgaa.Pure
open Go.RowKit Go.Proofs.Ytjjdpdcdpohcgaa.PNumberNames Go.Proofs.YtjjdpdcdpohcgaaW.PrintWords Go.Proofs.YtjjdpdcdpohcgaaW.PrintLast

/-- YOURS: hallmarklaw15_NumberNames.f  = some true
What it reaches (each with k first where it has rounds; `.mono`: more rounds tell the same; `.l0`, ..: its loops, with `.mono_l`): hallmarklaw15_NumberNames.f -/
theorem NumberNames : hallmarklaw15_NumberNames.Pure := by
  rfl

end Go.Proofs.Ytjjdpdcdpohcgaa.Pure
