-- PRINTED BY print.sh 35421559b90ae4d0a3588c463048766b98c2df88dd9212a6774a882060cdf62d: not written by this session
import Derived.Test.YtjjdpdcdpohcgaaPOrderNamesx0
namespace Go.Proofs.Ytjjdpdcdpohcgaa.POrderNames
open Go.RowKit Go.Proofs.YtjjdpdcdpohcgaaW.PrintWords Go.Proofs.YtjjdpdcdpohcgaaW.PrintLast Go.Proofs.YtjjdpdcdpohcgaaW.PrintMore
attribute [local go_sem] max2_int min2_int max_two min_two max_three min_three max_four min_four   -- for this text's walks alone
set_option linter.unusedVariables false
set_option linter.unusedSimpArgs false

/-! ### hallmarklaw6_OrderNames: function 4 -/
def hallmarklaw6_OrderNames.f  : Option (Bool) := some true
set_option maxHeartbeats 8000000 in
set_option maxRecDepth 100000 in
theorem hallmarklaw6_OrderNames.calls  (r : Bool) (w : World) (h : hallmarklaw6_OrderNames.f  = some r) :
    Calls Try.prog 4 #[] w fun e w' => e = .returned (.bool r) ∧ Drawn0 w w' := by
  have H : (some true) = some r := h
  clear h
  obtain rfl := Option.some.inj H
  go_enter Try.func4, Try.ntmps4
  go_wp2
  go_ret
  exact ⟨by first | rfl | (simp; done) | (simp [*]; done), by repeat (first | exact Drawn0.refl _ | apply Drawn0.step)⟩

/-- THE ONE PURE STATEMENT of hallmarklaw6_OrderNames: yours. -/
def hallmarklaw6_OrderNames.Pure : Prop := hallmarklaw6_OrderNames.f  = some true
theorem hallmarklaw6_OrderNames.walk (P : hallmarklaw6_OrderNames.Pure)  (w : World)  :
    Calls Try.prog 4 #[] w fun e w' => e = .returned (.bool true) ∧ Below w.heap.size w w' := by
  have h := P  
  refine (hallmarklaw6_OrderNames.calls  true w h).mono ?_
  rintro e w' ⟨rfl, hd⟩
  exact ⟨rfl, hd.below⟩

end Go.Proofs.Ytjjdpdcdpohcgaa.POrderNames
