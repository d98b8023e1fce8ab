/-
  No cell of these rows narrows 'for every input' (looked for: loops, veiled, ifaces, maps, wideKeys, modest, calm, conditions, laid).
  DERIVED. THE GIVEN ROWS OF THIS SEAT. 3 by the template 'for every input the law returns true; each argument reads behind the call as it read before'; 0 by the template 'total and deterministic' (their statements: YtkfpoacloidepaaTotals.lean).
  GIVEN WITH THE SEED: the statements are not yours to turn. If you find one false, say at which input.
  Laid BY PROGRAM, IN A SANDBOX (cutbox-rows.mjs): the forced cells as the released guide's own fill.sh prints them over the translation 547a146406cf076d… (all of the seat's roots in one cut). By AI agents, Wed Nov 11 2026. No macro, syntax, notation, axiom, sorry.
-/
import Derived.Test.YtkfpoacloidepaaChecked
import GoSem.Claim
import GoSem.ClaimJoined
import GoSem.ClaimMapViews
import Derived.JoinedTies
import Derived.KernelRfl
namespace Go.Proofs.Ytkfpoacloidepaa
/- THE CELL 'sum', in the pinned program and in every row, IS THE sha256 OF THE DUMP (.gsa) THAT YtkfpoacloidepaaProg.lean LOADS. Nothing in Lean hashes anything: it is a label: what it is worth is what the hold of that sum in a sandbox is worth. -/
noncomputable def Try.pinned : Pinned := { name := "ytkfpoacloidepaa", sum := "547a146406cf076dc374a0a993aae0bac6363d054f037fbea9ce079b932c94ee", checked := Try.checked }
namespace Rows
def none {H : Type} : Left H := { results := [], args := [] }

/-- 'hallmarklaw4.ModelWorth': WHATEVER THE INPUT: true; the input reads as it did. -/
def modelWorthSpec : ChangeSpec := { name := "modelWorth", fn := fun _ => fun
  | [d1, d2] => { results := [.lit (.bool true)], args := [d1, d2] }
  | _ => none }
def modelWorthRow : OpenClaim := { program := "ytkfpoacloidepaa", sum := "547a146406cf076dc374a0a993aae0bac6363d054f037fbea9ce079b932c94ee", func := "hallmark/hallmarklaw4.ModelWorth", spec := "modelWorth", unfollowed := true, recurses := true, apart := false }
def ModelWorthSaid : Prop := modelWorthRow.holds Try.pinned (OpenSpec.ofChange modelWorthSpec)

/-- ITS FALSE NEIGHBOUR: 'it returns false'. Refute it at one input. -/
def modelWorthWrong : ChangeSpec := { name := "modelWorth", fn := fun _ => fun
  | [d1, d2] => { results := [.lit (.bool false)], args := [d1, d2] }
  | _ => none }
def ModelWorthWrongFalsely : Prop := modelWorthRow.holds Try.pinned (OpenSpec.ofChange modelWorthWrong)

/-- 'hallmarklaw4.ModelOwn': WHATEVER THE INPUT: true; the input reads as it did. -/
def modelOwnSpec : ChangeSpec := { name := "modelOwn", fn := fun _ => fun
  | [d1, d2, d3] => { results := [.lit (.bool true)], args := [d1, d2, d3] }
  | _ => none }
def modelOwnRow : OpenClaim := { program := "ytkfpoacloidepaa", sum := "547a146406cf076dc374a0a993aae0bac6363d054f037fbea9ce079b932c94ee", func := "hallmark/hallmarklaw4.ModelOwn", spec := "modelOwn", unfollowed := true, recurses := true, apart := false }
def ModelOwnSaid : Prop := modelOwnRow.holds Try.pinned (OpenSpec.ofChange modelOwnSpec)

/-- ITS FALSE NEIGHBOUR: 'it returns false'. Refute it at one input. -/
def modelOwnWrong : ChangeSpec := { name := "modelOwn", fn := fun _ => fun
  | [d1, d2, d3] => { results := [.lit (.bool false)], args := [d1, d2, d3] }
  | _ => none }
def ModelOwnWrongFalsely : Prop := modelOwnRow.holds Try.pinned (OpenSpec.ofChange modelOwnWrong)

/-- 'hallmarklaw4.ModelMore': WHATEVER THE INPUT: true; the input reads as it did. -/
def modelMoreSpec : ChangeSpec := { name := "modelMore", fn := fun _ => fun
  | [d1, d2, d3] => { results := [.lit (.bool true)], args := [d1, d2, d3] }
  | _ => none }
def modelMoreRow : OpenClaim := { program := "ytkfpoacloidepaa", sum := "547a146406cf076dc374a0a993aae0bac6363d054f037fbea9ce079b932c94ee", func := "hallmark/hallmarklaw4.ModelMore", spec := "modelMore", unfollowed := true, recurses := true, apart := false }
def ModelMoreSaid : Prop := modelMoreRow.holds Try.pinned (OpenSpec.ofChange modelMoreSpec)

/-- ITS FALSE NEIGHBOUR: 'it returns false'. Refute it at one input. -/
def modelMoreWrong : ChangeSpec := { name := "modelMore", fn := fun _ => fun
  | [d1, d2, d3] => { results := [.lit (.bool false)], args := [d1, d2, d3] }
  | _ => none }
def ModelMoreWrongFalsely : Prop := modelMoreRow.holds Try.pinned (OpenSpec.ofChange modelMoreWrong)

/- THE SECOND FORM. 'bulk': how many values and letters a reading holds, each counted each time it is reached (what is shared counts as often as it is met; a slice's spare places count too). A statement '..UptoSaid' is the law's where the arguments, and the package variables that the reading takes, are together of bulk at most 1048576: NARROWER than '..Said'. Prove '..Said' where nothing that the law and all that it calls make is longer than what came in: it says more and counts as full. Else prove '..UptoSaid'. A law counts once. -/
mutual
def uptoBulk {H : Type} : DataW H → Nat
  | .lit (.string bytes) => bytes.length + 1
  | .lit _ => 1
  | .nil => 1
  | .ptr d => uptoBulk d + 1
  | .slice elems spare => uptoBulkAll elems + uptoBulkAll spare + 1
  | .agg parts => uptoBulkAll parts + 1
  | .iface _ d => uptoBulk d + 1
  | .map entries => uptoBulkEntries entries + 1
  | .held _ => 1
def uptoBulkAll {H : Type} : List (DataW H) → Nat
  | [] => 0
  | d :: r => uptoBulk d + uptoBulkAll r
def uptoBulkEntries {H : Type} : List (Lit × DataW H) → Nat
  | [] => 0
  | x :: r => uptoBulkEntry x + uptoBulkEntries r
def uptoBulkEntry {H : Type} : Lit × DataW H → Nat
  | (.string bytes, d) => bytes.length + uptoBulk d + 1
  | (_, d) => uptoBulk d + 1
 end
def uptoSmall : (H : Type) → List (DataW H) → Bool := fun _ ds => decide (uptoBulkAll ds ≤ 1048576)
def OpenSpec.upto (s : _root_.Go.ChangeSpec) : _root_.Go.OpenSpec := { _root_.Go.OpenSpec.ofChange s with cond := some uptoSmall }

/-- 'hallmarklaw4.ModelWorth', WHERE WHAT IT READS IS OF BULK AT MOST 1048576: true; the input reads as it did. -/
def modelWorthUptoRow : OpenClaim := { program := "ytkfpoacloidepaa", sum := "547a146406cf076dc374a0a993aae0bac6363d054f037fbea9ce079b932c94ee", func := "hallmark/hallmarklaw4.ModelWorth", spec := "modelWorth", unfollowed := true, recurses := true, apart := false, narrowed := true }
def ModelWorthUptoSaid : Prop := modelWorthUptoRow.holds Try.pinned (OpenSpec.upto modelWorthSpec)

/-- 'hallmarklaw4.ModelOwn', WHERE WHAT IT READS IS OF BULK AT MOST 1048576: true; the input reads as it did. -/
def modelOwnUptoRow : OpenClaim := { program := "ytkfpoacloidepaa", sum := "547a146406cf076dc374a0a993aae0bac6363d054f037fbea9ce079b932c94ee", func := "hallmark/hallmarklaw4.ModelOwn", spec := "modelOwn", unfollowed := true, recurses := true, apart := false, narrowed := true }
def ModelOwnUptoSaid : Prop := modelOwnUptoRow.holds Try.pinned (OpenSpec.upto modelOwnSpec)

/-- 'hallmarklaw4.ModelMore', WHERE WHAT IT READS IS OF BULK AT MOST 1048576: true; the input reads as it did. -/
def modelMoreUptoRow : OpenClaim := { program := "ytkfpoacloidepaa", sum := "547a146406cf076dc374a0a993aae0bac6363d054f037fbea9ce079b932c94ee", func := "hallmark/hallmarklaw4.ModelMore", spec := "modelMore", unfollowed := true, recurses := true, apart := false, narrowed := true }
def ModelMoreUptoSaid : Prop := modelMoreUptoRow.holds Try.pinned (OpenSpec.upto modelMoreSpec)

end Rows
end Go.Proofs.Ytkfpoacloidepaa
