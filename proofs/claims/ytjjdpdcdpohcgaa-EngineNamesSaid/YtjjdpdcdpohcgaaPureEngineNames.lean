/- The statement EngineNames: the closed sentence over the names, numbers and errors of its chapter is true; no condition. -/
import Derived.Test.YtjjdpdcdpohcgaaPEngineNamesx1
namespace Go.Proofs.Ytjjdpdcdpohcgaa.Pure
open Go.RowKit Go.Proofs.Ytjjdpdcdpohcgaa.PEngineNames Go.Proofs.YtjjdpdcdpohcgaaW.PrintWords Go.Proofs.YtjjdpdcdpohcgaaW.PrintLast

/-- YOURS: hallmarklaw14_EngineNames.f  = some true
What it reaches (each with k first where it has rounds; `.mono`: more rounds tell the same; `.l0`, ..: its loops, with `.mono_l`): hallmarklaw14_EngineNames.f -/
theorem EngineNames : hallmarklaw14_EngineNames.Pure := by
  rfl

end Go.Proofs.Ytjjdpdcdpohcgaa.Pure
