-- PRINTED BY print.sh 35421559b90ae4d0a3588c463048766b98c2df88dd9212a6774a882060cdf62d: not written by this session
import Derived.Test.YtjjdpdcdpohcgaaPPropNamesx0
namespace Go.Proofs.Ytjjdpdcdpohcgaa.PPropNames
open Go.RowKit Go.Proofs.YtjjdpdcdpohcgaaW.PrintWords Go.Proofs.YtjjdpdcdpohcgaaW.PrintLast Go.Proofs.YtjjdpdcdpohcgaaW.PrintMore
attribute [local go_sem] max2_int min2_int max_two min_two max_three min_three max_four min_four   -- for this text's walks alone
set_option linter.unusedVariables false
set_option linter.unusedSimpArgs false

/-! ### hallmarklaw12_PropNames: function 6 -/
def hallmarklaw12_PropNames.f  : Option (Bool) := some true
set_option maxHeartbeats 8000000 in
set_option maxRecDepth 100000 in
theorem hallmarklaw12_PropNames.calls  (r : Bool) (w : World) (h : hallmarklaw12_PropNames.f  = some r) :
    Calls Try.prog 6 #[] w fun e w' => e = .returned (.bool r) ∧ Drawn0 w w' := by
  have H : (some true) = some r := h
  clear h
  obtain rfl := Option.some.inj H
  go_enter Try.func6, Try.ntmps6
  go_wp2
  go_ret
  exact ⟨by first | rfl | (simp; done) | (simp [*]; done), by repeat (first | exact Drawn0.refl _ | apply Drawn0.step)⟩

/-- THE ONE PURE STATEMENT of hallmarklaw12_PropNames: yours. -/
def hallmarklaw12_PropNames.Pure : Prop := hallmarklaw12_PropNames.f  = some true
theorem hallmarklaw12_PropNames.walk (P : hallmarklaw12_PropNames.Pure)  (w : World)  :
    Calls Try.prog 6 #[] w fun e w' => e = .returned (.bool true) ∧ Below w.heap.size w w' := by
  have h := P  
  refine (hallmarklaw12_PropNames.calls  true w h).mono ?_
  rintro e w' ⟨rfl, hd⟩
  exact ⟨rfl, hd.below⟩

end Go.Proofs.Ytjjdpdcdpohcgaa.PPropNames
