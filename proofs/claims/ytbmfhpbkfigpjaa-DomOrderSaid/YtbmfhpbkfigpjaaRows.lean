/-
  No cell of these rows narrows 'for every input' (looked for: loops, veiled, ifaces, maps, wideKeys, modest, calm, conditions, laid).
  DERIVED. THE GIVEN ROWS OF THIS SEAT. 2 by the template 'for every input the law returns true; each argument reads behind the call as it read before'; 0 by the template 'total and deterministic' (their statements: YtbmfhpbkfigpjaaTotals.lean).
  GIVEN WITH THE SEED: the statements are not yours to turn. If you find one false, say at which input.
  Laid BY PROGRAM, IN A SANDBOX (cutbox-rows.mjs): the forced cells as the released guide's own fill.sh prints them over the translation 28f0f16d339d01ed… (all of the seat's roots in one cut). By AI agents, Wed Nov 11 2026. No macro, syntax, notation, axiom, sorry.
-/
import Derived.Test.YtbmfhpbkfigpjaaChecked
import GoSem.Claim
import GoSem.ClaimJoined
import GoSem.ClaimMapViews
import Derived.JoinedTies
import Derived.KernelRfl
namespace Go.Proofs.Ytbmfhpbkfigpjaa
/- THE CELL 'sum', in the pinned program and in every row, IS THE sha256 OF THE DUMP (.gsa) THAT YtbmfhpbkfigpjaaProg.lean LOADS. Nothing in Lean hashes anything: it is a label: what it is worth is what the hold of that sum in a sandbox is worth. -/
noncomputable def Try.pinned : Pinned := { name := "ytbmfhpbkfigpjaa", sum := "28f0f16d339d01ed01cb154fa1d3e9790b417d4ae4cb5c5f1ca756a499abb828", checked := Try.checked }
namespace Rows
def none {H : Type} : Left H := { results := [], args := [] }

/-- 'hallmarklaw11.DomOrder': WHATEVER THE INPUT: true; the input reads as it did. -/
def domOrderSpec : ChangeSpec := { name := "domOrder", fn := fun _ => fun
  | [d1, d2, d3] => { results := [.lit (.bool true)], args := [d1, d2, d3] }
  | _ => none }
def domOrderRow : OpenClaim := { program := "ytbmfhpbkfigpjaa", sum := "28f0f16d339d01ed01cb154fa1d3e9790b417d4ae4cb5c5f1ca756a499abb828", func := "hallmark/hallmarklaw11.DomOrder", spec := "domOrder", unfollowed := true, recurses := true, apart := false }
def DomOrderSaid : Prop := domOrderRow.holds Try.pinned (OpenSpec.ofChange domOrderSpec)

/-- ITS FALSE NEIGHBOUR: 'it returns false'. Refute it at one input. -/
def domOrderWrong : ChangeSpec := { name := "domOrder", fn := fun _ => fun
  | [d1, d2, d3] => { results := [.lit (.bool false)], args := [d1, d2, d3] }
  | _ => none }
def DomOrderWrongFalsely : Prop := domOrderRow.holds Try.pinned (OpenSpec.ofChange domOrderWrong)

/-- 'hallmarklaw11.DomBack': WHATEVER THE INPUT: true; the input reads as it did. -/
def domBackSpec : ChangeSpec := { name := "domBack", fn := fun _ => fun
  | [d1, d2, d3] => { results := [.lit (.bool true)], args := [d1, d2, d3] }
  | _ => none }
def domBackRow : OpenClaim := { program := "ytbmfhpbkfigpjaa", sum := "28f0f16d339d01ed01cb154fa1d3e9790b417d4ae4cb5c5f1ca756a499abb828", func := "hallmark/hallmarklaw11.DomBack", spec := "domBack", unfollowed := true, recurses := true, apart := false }
def DomBackSaid : Prop := domBackRow.holds Try.pinned (OpenSpec.ofChange domBackSpec)

/-- ITS FALSE NEIGHBOUR: 'it returns false'. Refute it at one input. -/
def domBackWrong : ChangeSpec := { name := "domBack", fn := fun _ => fun
  | [d1, d2, d3] => { results := [.lit (.bool false)], args := [d1, d2, d3] }
  | _ => none }
def DomBackWrongFalsely : Prop := domBackRow.holds Try.pinned (OpenSpec.ofChange domBackWrong)

/- THE SECOND FORM. 'bulk': how many values and letters a reading holds, each counted each time it is reached (what is shared counts as often as it is met; a slice's spare places count too). A statement '..UptoSaid' is the law's where the arguments, and the package variables that the reading takes, are together of bulk at most 1048576: NARROWER than '..Said'. Prove '..Said' where nothing that the law and all that it calls make is longer than what came in: it says more and counts as full. Else prove '..UptoSaid'. A law counts once. -/
mutual
def uptoBulk {H : Type} : DataW H → Nat
  | .lit (.string bytes) => bytes.length + 1
  | .lit _ => 1
  | .nil => 1
  | .ptr d => uptoBulk d + 1
  | .slice elems spare => uptoBulkAll elems + uptoBulkAll spare + 1
  | .agg parts => uptoBulkAll parts + 1
  | .iface _ d => uptoBulk d + 1
  | .map entries => uptoBulkEntries entries + 1
  | .held _ => 1
def uptoBulkAll {H : Type} : List (DataW H) → Nat
  | [] => 0
  | d :: r => uptoBulk d + uptoBulkAll r
def uptoBulkEntries {H : Type} : List (Lit × DataW H) → Nat
  | [] => 0
  | x :: r => uptoBulkEntry x + uptoBulkEntries r
def uptoBulkEntry {H : Type} : Lit × DataW H → Nat
  | (.string bytes, d) => bytes.length + uptoBulk d + 1
  | (_, d) => uptoBulk d + 1
 end
def uptoSmall : (H : Type) → List (DataW H) → Bool := fun _ ds => decide (uptoBulkAll ds ≤ 1048576)
def OpenSpec.upto (s : _root_.Go.ChangeSpec) : _root_.Go.OpenSpec := { _root_.Go.OpenSpec.ofChange s with cond := some uptoSmall }

/-- 'hallmarklaw11.DomOrder', WHERE WHAT IT READS IS OF BULK AT MOST 1048576: true; the input reads as it did. -/
def domOrderUptoRow : OpenClaim := { program := "ytbmfhpbkfigpjaa", sum := "28f0f16d339d01ed01cb154fa1d3e9790b417d4ae4cb5c5f1ca756a499abb828", func := "hallmark/hallmarklaw11.DomOrder", spec := "domOrder", unfollowed := true, recurses := true, apart := false, narrowed := true }
def DomOrderUptoSaid : Prop := domOrderUptoRow.holds Try.pinned (OpenSpec.upto domOrderSpec)

/-- 'hallmarklaw11.DomBack', WHERE WHAT IT READS IS OF BULK AT MOST 1048576: true; the input reads as it did. -/
def domBackUptoRow : OpenClaim := { program := "ytbmfhpbkfigpjaa", sum := "28f0f16d339d01ed01cb154fa1d3e9790b417d4ae4cb5c5f1ca756a499abb828", func := "hallmark/hallmarklaw11.DomBack", spec := "domBack", unfollowed := true, recurses := true, apart := false, narrowed := true }
def DomBackUptoSaid : Prop := domBackUptoRow.holds Try.pinned (OpenSpec.upto domBackSpec)

end Rows
end Go.Proofs.Ytbmfhpbkfigpjaa
