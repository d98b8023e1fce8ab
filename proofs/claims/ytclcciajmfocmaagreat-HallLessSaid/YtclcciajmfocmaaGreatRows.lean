/-
  No cell of these rows narrows 'for every input' (looked for: loops, veiled, ifaces, maps, wideKeys, modest, calm, conditions, laid).
  DERIVED. THE GIVEN ROWS OF THIS SEAT. 3 by the template 'for every input the law returns true; each argument reads behind the call as it read before'; 0 by the template 'total and deterministic' (their statements: YtclcciajmfocmaaGreatTotals.lean).
  GIVEN WITH THE SEED: the statements are not yours to turn. If you find one false, say at which input.
  Laid BY PROGRAM, IN A SANDBOX (cutbox-rows.mjs): the forced cells as the released guide's own fill.sh prints them over the translation 8362b814256cd094… (all of the seat's roots in one cut). By AI agents, Wed Nov 11 2026. No macro, syntax, notation, axiom, sorry.
-/
import Derived.Test.YtclcciajmfocmaaGreatChecked
import GoSem.Claim
import GoSem.ClaimJoined
import GoSem.ClaimMapViews
import Derived.JoinedTies
import Derived.KernelRfl
namespace Go.Proofs.YtclcciajmfocmaaGreat
/- THE CELL 'sum', in the pinned program and in every row, IS THE sha256 OF THE DUMP (.gsa) THAT YtclcciajmfocmaaGreatProg.lean LOADS. Nothing in Lean hashes anything: it is a label: what it is worth is what the hold of that sum in a sandbox is worth. -/
noncomputable def Tryz.pinned : Pinned := { name := "ytclcciajmfocmaagreat", sum := "8362b814256cd094a6182dc4f774ba16163535592b5c85d7f24aa884eda2550c", checked := Tryz.checked }
namespace Rows
def none {H : Type} : Left H := { results := [], args := [] }

/-- 'hallmarklaw13.HallEnds': WHATEVER THE INPUT: true; the input reads as it did. -/
def hallEndsSpec : ChangeSpec := { name := "hallEnds", fn := fun _ => fun
  | [d1, d2, d3] => { results := [.lit (.bool true)], args := [d1, d2, d3] }
  | _ => none }
def hallEndsRow : OpenClaim := { program := "ytclcciajmfocmaagreat", sum := "8362b814256cd094a6182dc4f774ba16163535592b5c85d7f24aa884eda2550c", func := "hallmark/hallmarklaw13.HallEnds", spec := "hallEnds", unfollowed := true, recurses := true, apart := false }
def HallEndsSaid : Prop := hallEndsRow.holds Tryz.pinned (OpenSpec.ofChange hallEndsSpec)

/-- ITS FALSE NEIGHBOUR: 'it returns false'. Refute it at one input. -/
def hallEndsWrong : ChangeSpec := { name := "hallEnds", fn := fun _ => fun
  | [d1, d2, d3] => { results := [.lit (.bool false)], args := [d1, d2, d3] }
  | _ => none }
def HallEndsWrongFalsely : Prop := hallEndsRow.holds Tryz.pinned (OpenSpec.ofChange hallEndsWrong)

/-- 'hallmarklaw13.HallSafe': WHATEVER THE INPUT: true; the input reads as it did. -/
def hallSafeSpec : ChangeSpec := { name := "hallSafe", fn := fun _ => fun
  | [d1, d2, d3, d4] => { results := [.lit (.bool true)], args := [d1, d2, d3, d4] }
  | _ => none }
def hallSafeRow : OpenClaim := { program := "ytclcciajmfocmaagreat", sum := "8362b814256cd094a6182dc4f774ba16163535592b5c85d7f24aa884eda2550c", func := "hallmark/hallmarklaw13.HallSafe", spec := "hallSafe", unfollowed := true, recurses := true, apart := false }
def HallSafeSaid : Prop := hallSafeRow.holds Tryz.pinned (OpenSpec.ofChange hallSafeSpec)

/-- ITS FALSE NEIGHBOUR: 'it returns false'. Refute it at one input. -/
def hallSafeWrong : ChangeSpec := { name := "hallSafe", fn := fun _ => fun
  | [d1, d2, d3, d4] => { results := [.lit (.bool false)], args := [d1, d2, d3, d4] }
  | _ => none }
def HallSafeWrongFalsely : Prop := hallSafeRow.holds Tryz.pinned (OpenSpec.ofChange hallSafeWrong)

/-- 'hallmarklaw13.HallLess': WHATEVER THE INPUT: true; the input reads as it did. -/
def hallLessSpec : ChangeSpec := { name := "hallLess", fn := fun _ => fun
  | [d1, d2, d3, d4] => { results := [.lit (.bool true)], args := [d1, d2, d3, d4] }
  | _ => none }
def hallLessRow : OpenClaim := { program := "ytclcciajmfocmaagreat", sum := "8362b814256cd094a6182dc4f774ba16163535592b5c85d7f24aa884eda2550c", func := "hallmark/hallmarklaw13.HallLess", spec := "hallLess", unfollowed := true, recurses := true, apart := false }
def HallLessSaid : Prop := hallLessRow.holds Tryz.pinned (OpenSpec.ofChange hallLessSpec)

/-- ITS FALSE NEIGHBOUR: 'it returns false'. Refute it at one input. -/
def hallLessWrong : ChangeSpec := { name := "hallLess", fn := fun _ => fun
  | [d1, d2, d3, d4] => { results := [.lit (.bool false)], args := [d1, d2, d3, d4] }
  | _ => none }
def HallLessWrongFalsely : Prop := hallLessRow.holds Tryz.pinned (OpenSpec.ofChange hallLessWrong)

/- THE SECOND FORM. 'bulk': how many values and letters a reading holds, each counted each time it is reached (what is shared counts as often as it is met; a slice's spare places count too). A statement '..UptoSaid' is the law's where the arguments, and the package variables that the reading takes, are together of bulk at most 1048576: NARROWER than '..Said'. Prove '..Said' where nothing that the law and all that it calls make is longer than what came in: it says more and counts as full. Else prove '..UptoSaid'. A law counts once. -/
mutual
def uptoBulk {H : Type} : DataW H → Nat
  | .lit (.string bytes) => bytes.length + 1
  | .lit _ => 1
  | .nil => 1
  | .ptr d => uptoBulk d + 1
  | .slice elems spare => uptoBulkAll elems + uptoBulkAll spare + 1
  | .agg parts => uptoBulkAll parts + 1
  | .iface _ d => uptoBulk d + 1
  | .map entries => uptoBulkEntries entries + 1
  | .held _ => 1
def uptoBulkAll {H : Type} : List (DataW H) → Nat
  | [] => 0
  | d :: r => uptoBulk d + uptoBulkAll r
def uptoBulkEntries {H : Type} : List (Lit × DataW H) → Nat
  | [] => 0
  | x :: r => uptoBulkEntry x + uptoBulkEntries r
def uptoBulkEntry {H : Type} : Lit × DataW H → Nat
  | (.string bytes, d) => bytes.length + uptoBulk d + 1
  | (_, d) => uptoBulk d + 1
 end
def uptoSmall : (H : Type) → List (DataW H) → Bool := fun _ ds => decide (uptoBulkAll ds ≤ 1048576)
def OpenSpec.upto (s : _root_.Go.ChangeSpec) : _root_.Go.OpenSpec := { _root_.Go.OpenSpec.ofChange s with cond := some uptoSmall }

/-- 'hallmarklaw13.HallEnds', WHERE WHAT IT READS IS OF BULK AT MOST 1048576: true; the input reads as it did. -/
def hallEndsUptoRow : OpenClaim := { program := "ytclcciajmfocmaagreat", sum := "8362b814256cd094a6182dc4f774ba16163535592b5c85d7f24aa884eda2550c", func := "hallmark/hallmarklaw13.HallEnds", spec := "hallEnds", unfollowed := true, recurses := true, apart := false, narrowed := true }
def HallEndsUptoSaid : Prop := hallEndsUptoRow.holds Tryz.pinned (OpenSpec.upto hallEndsSpec)

/-- 'hallmarklaw13.HallSafe', WHERE WHAT IT READS IS OF BULK AT MOST 1048576: true; the input reads as it did. -/
def hallSafeUptoRow : OpenClaim := { program := "ytclcciajmfocmaagreat", sum := "8362b814256cd094a6182dc4f774ba16163535592b5c85d7f24aa884eda2550c", func := "hallmark/hallmarklaw13.HallSafe", spec := "hallSafe", unfollowed := true, recurses := true, apart := false, narrowed := true }
def HallSafeUptoSaid : Prop := hallSafeUptoRow.holds Tryz.pinned (OpenSpec.upto hallSafeSpec)

/-- 'hallmarklaw13.HallLess', WHERE WHAT IT READS IS OF BULK AT MOST 1048576: true; the input reads as it did. -/
def hallLessUptoRow : OpenClaim := { program := "ytclcciajmfocmaagreat", sum := "8362b814256cd094a6182dc4f774ba16163535592b5c85d7f24aa884eda2550c", func := "hallmark/hallmarklaw13.HallLess", spec := "hallLess", unfollowed := true, recurses := true, apart := false, narrowed := true }
def HallLessUptoSaid : Prop := hallLessUptoRow.holds Tryz.pinned (OpenSpec.upto hallLessSpec)

end Rows
end Go.Proofs.YtclcciajmfocmaaGreat
