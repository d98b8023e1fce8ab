/-
  No cell of these rows narrows 'for every input' (looked for: loops, veiled, ifaces, maps, wideKeys, modest, calm, conditions, laid).
  DERIVED. THE GIVEN ROWS OF THIS SEAT. 9 by the template 'for every input the law returns true; each argument reads behind the call as it read before'; 0 by the template 'total and deterministic' (their statements: YtjjdpdcdpohcgaaTotals.lean).
  GIVEN WITH THE SEED: the statements are not yours to turn. If you find one false, say at which input.
  Laid BY PROGRAM, IN A SANDBOX (cutbox-rows.mjs): the forced cells as the released guide's own fill.sh prints them over the translation a8c9a4e9b354baca… (all of the seat's roots in one cut). By AI agents, Wed Nov 11 2026. No macro, syntax, notation, axiom, sorry.
-/
import Derived.Test.YtjjdpdcdpohcgaaChecked
import GoSem.Claim
import GoSem.ClaimJoined
import GoSem.ClaimMapViews
import Derived.JoinedTies
import Derived.KernelRfl
namespace Go.Proofs.Ytjjdpdcdpohcgaa
/- THE CELL 'sum', in the pinned program and in every row, IS THE sha256 OF THE DUMP (.gsa) THAT YtjjdpdcdpohcgaaProg.lean LOADS. Nothing in Lean hashes anything: it is a label: what it is worth is what the hold of that sum in a sandbox is worth. -/
noncomputable def Try.pinned : Pinned := { name := "ytjjdpdcdpohcgaa", sum := "a8c9a4e9b354bacaf2ff304a2fb498450e6146b3ca048b555d83c7d47699572e", checked := Try.checked }
namespace Rows
def none {H : Type} : Left H := { results := [], args := [] }

/-- 'hallmarklaw4.ModelNames': WHATEVER THE INPUT: true; the input reads as it did. -/
def modelNamesSpec : ChangeSpec := { name := "modelNames", fn := fun _ => fun
  | [] => { results := [.lit (.bool true)], args := [] }
  | _ => none }
def modelNamesRow : OpenClaim := { program := "ytjjdpdcdpohcgaa", sum := "a8c9a4e9b354bacaf2ff304a2fb498450e6146b3ca048b555d83c7d47699572e", func := "hallmark/hallmarklaw4.ModelNames", spec := "modelNames", apart := false }
def ModelNamesSaid : Prop := modelNamesRow.holds Try.pinned (OpenSpec.ofChange modelNamesSpec)

/-- ITS FALSE NEIGHBOUR: 'it returns false'. Refute it at one input. -/
def modelNamesWrong : ChangeSpec := { name := "modelNames", fn := fun _ => fun
  | [] => { results := [.lit (.bool false)], args := [] }
  | _ => none }
def ModelNamesWrongFalsely : Prop := modelNamesRow.holds Try.pinned (OpenSpec.ofChange modelNamesWrong)

/-- 'hallmarklaw6.OrderNames': WHATEVER THE INPUT: true; the input reads as it did. -/
def orderNamesSpec : ChangeSpec := { name := "orderNames", fn := fun _ => fun
  | [] => { results := [.lit (.bool true)], args := [] }
  | _ => none }
def orderNamesRow : OpenClaim := { program := "ytjjdpdcdpohcgaa", sum := "a8c9a4e9b354bacaf2ff304a2fb498450e6146b3ca048b555d83c7d47699572e", func := "hallmark/hallmarklaw6.OrderNames", spec := "orderNames", apart := false }
def OrderNamesSaid : Prop := orderNamesRow.holds Try.pinned (OpenSpec.ofChange orderNamesSpec)

/-- ITS FALSE NEIGHBOUR: 'it returns false'. Refute it at one input. -/
def orderNamesWrong : ChangeSpec := { name := "orderNames", fn := fun _ => fun
  | [] => { results := [.lit (.bool false)], args := [] }
  | _ => none }
def OrderNamesWrongFalsely : Prop := orderNamesRow.holds Try.pinned (OpenSpec.ofChange orderNamesWrong)

/-- 'hallmarklaw11.DomNames': WHATEVER THE INPUT: true; the input reads as it did. -/
def domNamesSpec : ChangeSpec := { name := "domNames", fn := fun _ => fun
  | [] => { results := [.lit (.bool true)], args := [] }
  | _ => none }
def domNamesRow : OpenClaim := { program := "ytjjdpdcdpohcgaa", sum := "a8c9a4e9b354bacaf2ff304a2fb498450e6146b3ca048b555d83c7d47699572e", func := "hallmark/hallmarklaw11.DomNames", spec := "domNames", apart := false }
def DomNamesSaid : Prop := domNamesRow.holds Try.pinned (OpenSpec.ofChange domNamesSpec)

/-- ITS FALSE NEIGHBOUR: 'it returns false'. Refute it at one input. -/
def domNamesWrong : ChangeSpec := { name := "domNames", fn := fun _ => fun
  | [] => { results := [.lit (.bool false)], args := [] }
  | _ => none }
def DomNamesWrongFalsely : Prop := domNamesRow.holds Try.pinned (OpenSpec.ofChange domNamesWrong)

/-- 'hallmarklaw12.PropNames': WHATEVER THE INPUT: true; the input reads as it did. -/
def propNamesSpec : ChangeSpec := { name := "propNames", fn := fun _ => fun
  | [] => { results := [.lit (.bool true)], args := [] }
  | _ => none }
def propNamesRow : OpenClaim := { program := "ytjjdpdcdpohcgaa", sum := "a8c9a4e9b354bacaf2ff304a2fb498450e6146b3ca048b555d83c7d47699572e", func := "hallmark/hallmarklaw12.PropNames", spec := "propNames", apart := false }
def PropNamesSaid : Prop := propNamesRow.holds Try.pinned (OpenSpec.ofChange propNamesSpec)

/-- ITS FALSE NEIGHBOUR: 'it returns false'. Refute it at one input. -/
def propNamesWrong : ChangeSpec := { name := "propNames", fn := fun _ => fun
  | [] => { results := [.lit (.bool false)], args := [] }
  | _ => none }
def PropNamesWrongFalsely : Prop := propNamesRow.holds Try.pinned (OpenSpec.ofChange propNamesWrong)

/-- 'hallmarklaw14.EngineNames': WHATEVER THE INPUT: true; the input reads as it did. -/
def engineNamesSpec : ChangeSpec := { name := "engineNames", fn := fun _ => fun
  | [] => { results := [.lit (.bool true)], args := [] }
  | _ => none }
def engineNamesRow : OpenClaim := { program := "ytjjdpdcdpohcgaa", sum := "a8c9a4e9b354bacaf2ff304a2fb498450e6146b3ca048b555d83c7d47699572e", func := "hallmark/hallmarklaw14.EngineNames", spec := "engineNames", apart := false }
def EngineNamesSaid : Prop := engineNamesRow.holds Try.pinned (OpenSpec.ofChange engineNamesSpec)

/-- ITS FALSE NEIGHBOUR: 'it returns false'. Refute it at one input. -/
def engineNamesWrong : ChangeSpec := { name := "engineNames", fn := fun _ => fun
  | [] => { results := [.lit (.bool false)], args := [] }
  | _ => none }
def EngineNamesWrongFalsely : Prop := engineNamesRow.holds Try.pinned (OpenSpec.ofChange engineNamesWrong)

/-- 'hallmarklaw15.NumberNames': WHATEVER THE INPUT: true; the input reads as it did. -/
def numberNamesSpec : ChangeSpec := { name := "numberNames", fn := fun _ => fun
  | [] => { results := [.lit (.bool true)], args := [] }
  | _ => none }
def numberNamesRow : OpenClaim := { program := "ytjjdpdcdpohcgaa", sum := "a8c9a4e9b354bacaf2ff304a2fb498450e6146b3ca048b555d83c7d47699572e", func := "hallmark/hallmarklaw15.NumberNames", spec := "numberNames", apart := false }
def NumberNamesSaid : Prop := numberNamesRow.holds Try.pinned (OpenSpec.ofChange numberNamesSpec)

/-- ITS FALSE NEIGHBOUR: 'it returns false'. Refute it at one input. -/
def numberNamesWrong : ChangeSpec := { name := "numberNames", fn := fun _ => fun
  | [] => { results := [.lit (.bool false)], args := [] }
  | _ => none }
def NumberNamesWrongFalsely : Prop := numberNamesRow.holds Try.pinned (OpenSpec.ofChange numberNamesWrong)

/-- 'hallmarklaw1.BigNames': WHATEVER THE INPUT: true; the input reads as it did. -/
def bigNamesSpec : ChangeSpec := { name := "bigNames", fn := fun _ => fun
  | [] => { results := [.lit (.bool true)], args := [] }
  | _ => none }
def bigNamesRow : OpenClaim := { program := "ytjjdpdcdpohcgaa", sum := "a8c9a4e9b354bacaf2ff304a2fb498450e6146b3ca048b555d83c7d47699572e", func := "hallmark/hallmarklaw1.BigNames", spec := "bigNames", apart := false }
def BigNamesSaid : Prop := bigNamesRow.holds Try.pinned (OpenSpec.ofChange bigNamesSpec)

/-- ITS FALSE NEIGHBOUR: 'it returns false'. Refute it at one input. -/
def bigNamesWrong : ChangeSpec := { name := "bigNames", fn := fun _ => fun
  | [] => { results := [.lit (.bool false)], args := [] }
  | _ => none }
def BigNamesWrongFalsely : Prop := bigNamesRow.holds Try.pinned (OpenSpec.ofChange bigNamesWrong)

/-- 'hallmarklaw2.PbNames': WHATEVER THE INPUT: true; the input reads as it did. -/
def pbNamesSpec : ChangeSpec := { name := "pbNames", fn := fun _ => fun
  | [] => { results := [.lit (.bool true)], args := [] }
  | _ => none }
def pbNamesRow : OpenClaim := { program := "ytjjdpdcdpohcgaa", sum := "a8c9a4e9b354bacaf2ff304a2fb498450e6146b3ca048b555d83c7d47699572e", func := "hallmark/hallmarklaw2.PbNames", spec := "pbNames", apart := false }
def PbNamesSaid : Prop := pbNamesRow.holds Try.pinned (OpenSpec.ofChange pbNamesSpec)

/-- ITS FALSE NEIGHBOUR: 'it returns false'. Refute it at one input. -/
def pbNamesWrong : ChangeSpec := { name := "pbNames", fn := fun _ => fun
  | [] => { results := [.lit (.bool false)], args := [] }
  | _ => none }
def PbNamesWrongFalsely : Prop := pbNamesRow.holds Try.pinned (OpenSpec.ofChange pbNamesWrong)

/-- 'hallmarklaw9.BaseNames': WHATEVER THE INPUT: true; the input reads as it did. -/
def baseNamesSpec : ChangeSpec := { name := "baseNames", fn := fun _ => fun
  | [] => { results := [.lit (.bool true)], args := [] }
  | _ => none }
def baseNamesRow : OpenClaim := { program := "ytjjdpdcdpohcgaa", sum := "a8c9a4e9b354bacaf2ff304a2fb498450e6146b3ca048b555d83c7d47699572e", func := "hallmark/hallmarklaw9.BaseNames", spec := "baseNames", apart := false }
def BaseNamesSaid : Prop := baseNamesRow.holds Try.pinned (OpenSpec.ofChange baseNamesSpec)

/-- ITS FALSE NEIGHBOUR: 'it returns false'. Refute it at one input. -/
def baseNamesWrong : ChangeSpec := { name := "baseNames", fn := fun _ => fun
  | [] => { results := [.lit (.bool false)], args := [] }
  | _ => none }
def BaseNamesWrongFalsely : Prop := baseNamesRow.holds Try.pinned (OpenSpec.ofChange baseNamesWrong)

/- THE SECOND FORM. 'bulk': how many values and letters a reading holds, each counted each time it is reached (what is shared counts as often as it is met; a slice's spare places count too). A statement '..UptoSaid' is the law's where the arguments, and the package variables that the reading takes, are together of bulk at most 1048576: NARROWER than '..Said'. Prove '..Said' where nothing that the law and all that it calls make is longer than what came in: it says more and counts as full. Else prove '..UptoSaid'. A law counts once. -/
mutual
def uptoBulk {H : Type} : DataW H → Nat
  | .lit (.string bytes) => bytes.length + 1
  | .lit _ => 1
  | .nil => 1
  | .ptr d => uptoBulk d + 1
  | .slice elems spare => uptoBulkAll elems + uptoBulkAll spare + 1
  | .agg parts => uptoBulkAll parts + 1
  | .iface _ d => uptoBulk d + 1
  | .map entries => uptoBulkEntries entries + 1
  | .held _ => 1
def uptoBulkAll {H : Type} : List (DataW H) → Nat
  | [] => 0
  | d :: r => uptoBulk d + uptoBulkAll r
def uptoBulkEntries {H : Type} : List (Lit × DataW H) → Nat
  | [] => 0
  | x :: r => uptoBulkEntry x + uptoBulkEntries r
def uptoBulkEntry {H : Type} : Lit × DataW H → Nat
  | (.string bytes, d) => bytes.length + uptoBulk d + 1
  | (_, d) => uptoBulk d + 1
 end
def uptoSmall : (H : Type) → List (DataW H) → Bool := fun _ ds => decide (uptoBulkAll ds ≤ 1048576)
def OpenSpec.upto (s : _root_.Go.ChangeSpec) : _root_.Go.OpenSpec := { _root_.Go.OpenSpec.ofChange s with cond := some uptoSmall }

/-- 'hallmarklaw4.ModelNames', WHERE WHAT IT READS IS OF BULK AT MOST 1048576: true; the input reads as it did. -/
def modelNamesUptoRow : OpenClaim := { program := "ytjjdpdcdpohcgaa", sum := "a8c9a4e9b354bacaf2ff304a2fb498450e6146b3ca048b555d83c7d47699572e", func := "hallmark/hallmarklaw4.ModelNames", spec := "modelNames", apart := false, narrowed := true }
def ModelNamesUptoSaid : Prop := modelNamesUptoRow.holds Try.pinned (OpenSpec.upto modelNamesSpec)

/-- 'hallmarklaw6.OrderNames', WHERE WHAT IT READS IS OF BULK AT MOST 1048576: true; the input reads as it did. -/
def orderNamesUptoRow : OpenClaim := { program := "ytjjdpdcdpohcgaa", sum := "a8c9a4e9b354bacaf2ff304a2fb498450e6146b3ca048b555d83c7d47699572e", func := "hallmark/hallmarklaw6.OrderNames", spec := "orderNames", apart := false, narrowed := true }
def OrderNamesUptoSaid : Prop := orderNamesUptoRow.holds Try.pinned (OpenSpec.upto orderNamesSpec)

/-- 'hallmarklaw11.DomNames', WHERE WHAT IT READS IS OF BULK AT MOST 1048576: true; the input reads as it did. -/
def domNamesUptoRow : OpenClaim := { program := "ytjjdpdcdpohcgaa", sum := "a8c9a4e9b354bacaf2ff304a2fb498450e6146b3ca048b555d83c7d47699572e", func := "hallmark/hallmarklaw11.DomNames", spec := "domNames", apart := false, narrowed := true }
def DomNamesUptoSaid : Prop := domNamesUptoRow.holds Try.pinned (OpenSpec.upto domNamesSpec)

/-- 'hallmarklaw12.PropNames', WHERE WHAT IT READS IS OF BULK AT MOST 1048576: true; the input reads as it did. -/
def propNamesUptoRow : OpenClaim := { program := "ytjjdpdcdpohcgaa", sum := "a8c9a4e9b354bacaf2ff304a2fb498450e6146b3ca048b555d83c7d47699572e", func := "hallmark/hallmarklaw12.PropNames", spec := "propNames", apart := false, narrowed := true }
def PropNamesUptoSaid : Prop := propNamesUptoRow.holds Try.pinned (OpenSpec.upto propNamesSpec)

/-- 'hallmarklaw14.EngineNames', WHERE WHAT IT READS IS OF BULK AT MOST 1048576: true; the input reads as it did. -/
def engineNamesUptoRow : OpenClaim := { program := "ytjjdpdcdpohcgaa", sum := "a8c9a4e9b354bacaf2ff304a2fb498450e6146b3ca048b555d83c7d47699572e", func := "hallmark/hallmarklaw14.EngineNames", spec := "engineNames", apart := false, narrowed := true }
def EngineNamesUptoSaid : Prop := engineNamesUptoRow.holds Try.pinned (OpenSpec.upto engineNamesSpec)

/-- 'hallmarklaw15.NumberNames', WHERE WHAT IT READS IS OF BULK AT MOST 1048576: true; the input reads as it did. -/
def numberNamesUptoRow : OpenClaim := { program := "ytjjdpdcdpohcgaa", sum := "a8c9a4e9b354bacaf2ff304a2fb498450e6146b3ca048b555d83c7d47699572e", func := "hallmark/hallmarklaw15.NumberNames", spec := "numberNames", apart := false, narrowed := true }
def NumberNamesUptoSaid : Prop := numberNamesUptoRow.holds Try.pinned (OpenSpec.upto numberNamesSpec)

/-- 'hallmarklaw1.BigNames', WHERE WHAT IT READS IS OF BULK AT MOST 1048576: true; the input reads as it did. -/
def bigNamesUptoRow : OpenClaim := { program := "ytjjdpdcdpohcgaa", sum := "a8c9a4e9b354bacaf2ff304a2fb498450e6146b3ca048b555d83c7d47699572e", func := "hallmark/hallmarklaw1.BigNames", spec := "bigNames", apart := false, narrowed := true }
def BigNamesUptoSaid : Prop := bigNamesUptoRow.holds Try.pinned (OpenSpec.upto bigNamesSpec)

/-- 'hallmarklaw2.PbNames', WHERE WHAT IT READS IS OF BULK AT MOST 1048576: true; the input reads as it did. -/
def pbNamesUptoRow : OpenClaim := { program := "ytjjdpdcdpohcgaa", sum := "a8c9a4e9b354bacaf2ff304a2fb498450e6146b3ca048b555d83c7d47699572e", func := "hallmark/hallmarklaw2.PbNames", spec := "pbNames", apart := false, narrowed := true }
def PbNamesUptoSaid : Prop := pbNamesUptoRow.holds Try.pinned (OpenSpec.upto pbNamesSpec)

/-- 'hallmarklaw9.BaseNames', WHERE WHAT IT READS IS OF BULK AT MOST 1048576: true; the input reads as it did. -/
def baseNamesUptoRow : OpenClaim := { program := "ytjjdpdcdpohcgaa", sum := "a8c9a4e9b354bacaf2ff304a2fb498450e6146b3ca048b555d83c7d47699572e", func := "hallmark/hallmarklaw9.BaseNames", spec := "baseNames", apart := false, narrowed := true }
def BaseNamesUptoSaid : Prop := baseNamesUptoRow.holds Try.pinned (OpenSpec.upto baseNamesSpec)

end Rows
end Go.Proofs.Ytjjdpdcdpohcgaa
