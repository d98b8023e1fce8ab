-- PRINTED BY print.sh 35421559b90ae4d0a3588c463048766b98c2df88dd9212a6774a882060cdf62d: not written by this session
import Derived.Test.YtjjdpdcdpohcgaaPDomNamesx0
namespace Go.Proofs.Ytjjdpdcdpohcgaa.PDomNames
open Go.RowKit Go.Proofs.YtjjdpdcdpohcgaaW.PrintWords Go.Proofs.YtjjdpdcdpohcgaaW.PrintLast Go.Proofs.YtjjdpdcdpohcgaaW.PrintMore
attribute [local go_sem] max2_int min2_int max_two min_two max_three min_three max_four min_four   -- for this text's walks alone
set_option linter.unusedVariables false
set_option linter.unusedSimpArgs false

/-! ### hallmarklaw11_DomNames: function 5 -/
def hallmarklaw11_DomNames.f  : Option (Bool) := some true
set_option maxHeartbeats 8000000 in
set_option maxRecDepth 100000 in
theorem hallmarklaw11_DomNames.calls  (r : Bool) (w : World) (h : hallmarklaw11_DomNames.f  = some r) :
    Calls Try.prog 5 #[] w fun e w' => e = .returned (.bool r) ∧ Drawn0 w w' := by
  have H : (some true) = some r := h
  clear h
  obtain rfl := Option.some.inj H
  go_enter Try.func5, Try.ntmps5
  go_wp2
  go_ret
  exact ⟨by first | rfl | (simp; done) | (simp [*]; done), by repeat (first | exact Drawn0.refl _ | apply Drawn0.step)⟩

/-- THE ONE PURE STATEMENT of hallmarklaw11_DomNames: yours. -/
def hallmarklaw11_DomNames.Pure : Prop := hallmarklaw11_DomNames.f  = some true
theorem hallmarklaw11_DomNames.walk (P : hallmarklaw11_DomNames.Pure)  (w : World)  :
    Calls Try.prog 5 #[] w fun e w' => e = .returned (.bool true) ∧ Below w.heap.size w w' := by
  have h := P  
  refine (hallmarklaw11_DomNames.calls  true w h).mono ?_
  rintro e w' ⟨rfl, hd⟩
  exact ⟨rfl, hd.below⟩

end Go.Proofs.Ytjjdpdcdpohcgaa.PDomNames
