/-
  No cell of these rows narrows 'for every input' (looked for: loops, veiled, ifaces, maps, wideKeys, modest, calm, conditions, laid).
  DERIVED. THE GIVEN ROWS OF THIS SEAT. 6 by the template 'for every input the law returns true; each argument reads behind the call as it read before'; 0 by the template 'total and deterministic' (their statements: YthdkofhgdmgdcabTotals.lean).
  GIVEN WITH THE SEED: the statements are not yours to turn. If you find one false, say at which input.
  Laid BY PROGRAM, IN A SANDBOX (cutbox-rows.mjs): the forced cells as the released guide's own fill.sh prints them over the translation 49318e0f8670d5dc… (all of the seat's roots in one cut). By AI agents, Wed Nov 11 2026. No macro, syntax, notation, axiom, sorry.
-/
import Derived.Test.YthdkofhgdmgdcabChecked
import GoSem.Claim
import GoSem.ClaimJoined
import GoSem.ClaimMapViews
import Derived.JoinedTies
import Derived.KernelRfl
namespace Go.Proofs.Ythdkofhgdmgdcab
/- THE CELL 'sum', in the pinned program and in every row, IS THE sha256 OF THE DUMP (.gsa) THAT YthdkofhgdmgdcabProg.lean LOADS. Nothing in Lean hashes anything: it is a label: what it is worth is what the hold of that sum in a sandbox is worth. -/
noncomputable def Try.pinned : Pinned := { name := "ythdkofhgdmgdcab", sum := "49318e0f8670d5dc13da09d9d237c17e06a69ad2f09507cc1fd70a042ba588e1", checked := Try.checked }
namespace Rows
def none {H : Type} : Left H := { results := [], args := [] }

/-- 'ouroboroslaw15.QueueTells': WHATEVER THE INPUT: true; the input reads as it did. -/
def queueTellsSpec : ChangeSpec := { name := "queueTells", fn := fun _ => fun
  | [d1, d2, d3, d4, d5] => { results := [.lit (.bool true)], args := [d1, d2, d3, d4, d5] }
  | _ => none }
def queueTellsRow : OpenClaim := { program := "ythdkofhgdmgdcab", sum := "49318e0f8670d5dc13da09d9d237c17e06a69ad2f09507cc1fd70a042ba588e1", func := "ouroboros/ouroboroslaw15.QueueTells", spec := "queueTells", inPlace := ["slices.overlaps[string]"], unfollowed := true, recurses := true, apart := false }
def QueueTellsSaid : Prop := queueTellsRow.holds Try.pinned (OpenSpec.ofChange queueTellsSpec)

/-- ITS FALSE NEIGHBOUR: 'it returns false'. Refute it at one input. -/
def queueTellsWrong : ChangeSpec := { name := "queueTells", fn := fun _ => fun
  | [d1, d2, d3, d4, d5] => { results := [.lit (.bool false)], args := [d1, d2, d3, d4, d5] }
  | _ => none }
def QueueTellsWrongFalsely : Prop := queueTellsRow.holds Try.pinned (OpenSpec.ofChange queueTellsWrong)

/-- 'ouroboroslaw15.QueueBounds': WHATEVER THE INPUT: true; the input reads as it did. -/
def queueBoundsSpec : ChangeSpec := { name := "queueBounds", fn := fun _ => fun
  | [d1, d2, d3] => { results := [.lit (.bool true)], args := [d1, d2, d3] }
  | _ => none }
def queueBoundsRow : OpenClaim := { program := "ythdkofhgdmgdcab", sum := "49318e0f8670d5dc13da09d9d237c17e06a69ad2f09507cc1fd70a042ba588e1", func := "ouroboros/ouroboroslaw15.QueueBounds", spec := "queueBounds", inPlace := ["slices.overlaps[string]"], unfollowed := true, recurses := true, apart := false }
def QueueBoundsSaid : Prop := queueBoundsRow.holds Try.pinned (OpenSpec.ofChange queueBoundsSpec)

/-- ITS FALSE NEIGHBOUR: 'it returns false'. Refute it at one input. -/
def queueBoundsWrong : ChangeSpec := { name := "queueBounds", fn := fun _ => fun
  | [d1, d2, d3] => { results := [.lit (.bool false)], args := [d1, d2, d3] }
  | _ => none }
def QueueBoundsWrongFalsely : Prop := queueBoundsRow.holds Try.pinned (OpenSpec.ofChange queueBoundsWrong)

/-- 'ouroboroslaw15.QueueMoves': WHATEVER THE INPUT: true; the input reads as it did. -/
def queueMovesSpec : ChangeSpec := { name := "queueMoves", fn := fun _ => fun
  | [d1, d2, d3] => { results := [.lit (.bool true)], args := [d1, d2, d3] }
  | _ => none }
def queueMovesRow : OpenClaim := { program := "ythdkofhgdmgdcab", sum := "49318e0f8670d5dc13da09d9d237c17e06a69ad2f09507cc1fd70a042ba588e1", func := "ouroboros/ouroboroslaw15.QueueMoves", spec := "queueMoves", inPlace := ["slices.overlaps[string]"], unfollowed := true, recurses := true, apart := false }
def QueueMovesSaid : Prop := queueMovesRow.holds Try.pinned (OpenSpec.ofChange queueMovesSpec)

/-- ITS FALSE NEIGHBOUR: 'it returns false'. Refute it at one input. -/
def queueMovesWrong : ChangeSpec := { name := "queueMoves", fn := fun _ => fun
  | [d1, d2, d3] => { results := [.lit (.bool false)], args := [d1, d2, d3] }
  | _ => none }
def QueueMovesWrongFalsely : Prop := queueMovesRow.holds Try.pinned (OpenSpec.ofChange queueMovesWrong)

/-- 'ouroboroslaw15.QueueKeeps': WHATEVER THE INPUT: true; the input reads as it did. -/
def queueKeepsSpec : ChangeSpec := { name := "queueKeeps", fn := fun _ => fun
  | [d1, d2, d3, d4, d5] => { results := [.lit (.bool true)], args := [d1, d2, d3, d4, d5] }
  | _ => none }
def queueKeepsRow : OpenClaim := { program := "ythdkofhgdmgdcab", sum := "49318e0f8670d5dc13da09d9d237c17e06a69ad2f09507cc1fd70a042ba588e1", func := "ouroboros/ouroboroslaw15.QueueKeeps", spec := "queueKeeps", inPlace := ["slices.overlaps[string]"], unfollowed := true, recurses := true, apart := false }
def QueueKeepsSaid : Prop := queueKeepsRow.holds Try.pinned (OpenSpec.ofChange queueKeepsSpec)

/-- ITS FALSE NEIGHBOUR: 'it returns false'. Refute it at one input. -/
def queueKeepsWrong : ChangeSpec := { name := "queueKeeps", fn := fun _ => fun
  | [d1, d2, d3, d4, d5] => { results := [.lit (.bool false)], args := [d1, d2, d3, d4, d5] }
  | _ => none }
def QueueKeepsWrongFalsely : Prop := queueKeepsRow.holds Try.pinned (OpenSpec.ofChange queueKeepsWrong)

/-- 'ouroboroslaw15.QueueTakes': WHATEVER THE INPUT: true; the input reads as it did. -/
def queueTakesSpec : ChangeSpec := { name := "queueTakes", fn := fun _ => fun
  | [d] => { results := [.lit (.bool true)], args := [d] }
  | _ => none }
def queueTakesRow : OpenClaim := { program := "ythdkofhgdmgdcab", sum := "49318e0f8670d5dc13da09d9d237c17e06a69ad2f09507cc1fd70a042ba588e1", func := "ouroboros/ouroboroslaw15.QueueTakes", spec := "queueTakes", inPlace := ["slices.overlaps[string]"], unfollowed := true, recurses := true, apart := false }
def QueueTakesSaid : Prop := queueTakesRow.holds Try.pinned (OpenSpec.ofChange queueTakesSpec)

/-- ITS FALSE NEIGHBOUR: 'it returns false'. Refute it at one input. -/
def queueTakesWrong : ChangeSpec := { name := "queueTakes", fn := fun _ => fun
  | [d] => { results := [.lit (.bool false)], args := [d] }
  | _ => none }
def QueueTakesWrongFalsely : Prop := queueTakesRow.holds Try.pinned (OpenSpec.ofChange queueTakesWrong)

/-- 'ouroboroslaw15.QueueTwice': WHATEVER THE INPUT: true; the input reads as it did. -/
def queueTwiceSpec : ChangeSpec := { name := "queueTwice", fn := fun _ => fun
  | [d1, d2] => { results := [.lit (.bool true)], args := [d1, d2] }
  | _ => none }
def queueTwiceRow : OpenClaim := { program := "ythdkofhgdmgdcab", sum := "49318e0f8670d5dc13da09d9d237c17e06a69ad2f09507cc1fd70a042ba588e1", func := "ouroboros/ouroboroslaw15.QueueTwice", spec := "queueTwice", inPlace := ["slices.overlaps[string]"], unfollowed := true, recurses := true, apart := false }
def QueueTwiceSaid : Prop := queueTwiceRow.holds Try.pinned (OpenSpec.ofChange queueTwiceSpec)

/-- ITS FALSE NEIGHBOUR: 'it returns false'. Refute it at one input. -/
def queueTwiceWrong : ChangeSpec := { name := "queueTwice", fn := fun _ => fun
  | [d1, d2] => { results := [.lit (.bool false)], args := [d1, d2] }
  | _ => none }
def QueueTwiceWrongFalsely : Prop := queueTwiceRow.holds Try.pinned (OpenSpec.ofChange queueTwiceWrong)

/- THE SECOND FORM. 'bulk': how many values and letters a reading holds, each counted each time it is reached (what is shared counts as often as it is met; a slice's spare places count too). A statement '..UptoSaid' is the law's where the arguments, and the package variables that the reading takes, are together of bulk at most 1048576: NARROWER than '..Said'. Prove '..Said' where nothing that the law and all that it calls make is longer than what came in: it says more and counts as full. Else prove '..UptoSaid'. A law counts once. -/
mutual
def uptoBulk {H : Type} : DataW H → Nat
  | .lit (.string bytes) => bytes.length + 1
  | .lit _ => 1
  | .nil => 1
  | .ptr d => uptoBulk d + 1
  | .slice elems spare => uptoBulkAll elems + uptoBulkAll spare + 1
  | .agg parts => uptoBulkAll parts + 1
  | .iface _ d => uptoBulk d + 1
  | .map entries => uptoBulkEntries entries + 1
  | .held _ => 1
def uptoBulkAll {H : Type} : List (DataW H) → Nat
  | [] => 0
  | d :: r => uptoBulk d + uptoBulkAll r
def uptoBulkEntries {H : Type} : List (Lit × DataW H) → Nat
  | [] => 0
  | x :: r => uptoBulkEntry x + uptoBulkEntries r
def uptoBulkEntry {H : Type} : Lit × DataW H → Nat
  | (.string bytes, d) => bytes.length + uptoBulk d + 1
  | (_, d) => uptoBulk d + 1
 end
def uptoSmall : (H : Type) → List (DataW H) → Bool := fun _ ds => decide (uptoBulkAll ds ≤ 1048576)
def OpenSpec.upto (s : _root_.Go.ChangeSpec) : _root_.Go.OpenSpec := { _root_.Go.OpenSpec.ofChange s with cond := some uptoSmall }

/-- 'ouroboroslaw15.QueueTells', WHERE WHAT IT READS IS OF BULK AT MOST 1048576: true; the input reads as it did. -/
def queueTellsUptoRow : OpenClaim := { program := "ythdkofhgdmgdcab", sum := "49318e0f8670d5dc13da09d9d237c17e06a69ad2f09507cc1fd70a042ba588e1", func := "ouroboros/ouroboroslaw15.QueueTells", spec := "queueTells", inPlace := ["slices.overlaps[string]"], unfollowed := true, recurses := true, apart := false, narrowed := true }
def QueueTellsUptoSaid : Prop := queueTellsUptoRow.holds Try.pinned (OpenSpec.upto queueTellsSpec)

/-- 'ouroboroslaw15.QueueBounds', WHERE WHAT IT READS IS OF BULK AT MOST 1048576: true; the input reads as it did. -/
def queueBoundsUptoRow : OpenClaim := { program := "ythdkofhgdmgdcab", sum := "49318e0f8670d5dc13da09d9d237c17e06a69ad2f09507cc1fd70a042ba588e1", func := "ouroboros/ouroboroslaw15.QueueBounds", spec := "queueBounds", inPlace := ["slices.overlaps[string]"], unfollowed := true, recurses := true, apart := false, narrowed := true }
def QueueBoundsUptoSaid : Prop := queueBoundsUptoRow.holds Try.pinned (OpenSpec.upto queueBoundsSpec)

/-- 'ouroboroslaw15.QueueMoves', WHERE WHAT IT READS IS OF BULK AT MOST 1048576: true; the input reads as it did. -/
def queueMovesUptoRow : OpenClaim := { program := "ythdkofhgdmgdcab", sum := "49318e0f8670d5dc13da09d9d237c17e06a69ad2f09507cc1fd70a042ba588e1", func := "ouroboros/ouroboroslaw15.QueueMoves", spec := "queueMoves", inPlace := ["slices.overlaps[string]"], unfollowed := true, recurses := true, apart := false, narrowed := true }
def QueueMovesUptoSaid : Prop := queueMovesUptoRow.holds Try.pinned (OpenSpec.upto queueMovesSpec)

/-- 'ouroboroslaw15.QueueKeeps', WHERE WHAT IT READS IS OF BULK AT MOST 1048576: true; the input reads as it did. -/
def queueKeepsUptoRow : OpenClaim := { program := "ythdkofhgdmgdcab", sum := "49318e0f8670d5dc13da09d9d237c17e06a69ad2f09507cc1fd70a042ba588e1", func := "ouroboros/ouroboroslaw15.QueueKeeps", spec := "queueKeeps", inPlace := ["slices.overlaps[string]"], unfollowed := true, recurses := true, apart := false, narrowed := true }
def QueueKeepsUptoSaid : Prop := queueKeepsUptoRow.holds Try.pinned (OpenSpec.upto queueKeepsSpec)

/-- 'ouroboroslaw15.QueueTakes', WHERE WHAT IT READS IS OF BULK AT MOST 1048576: true; the input reads as it did. -/
def queueTakesUptoRow : OpenClaim := { program := "ythdkofhgdmgdcab", sum := "49318e0f8670d5dc13da09d9d237c17e06a69ad2f09507cc1fd70a042ba588e1", func := "ouroboros/ouroboroslaw15.QueueTakes", spec := "queueTakes", inPlace := ["slices.overlaps[string]"], unfollowed := true, recurses := true, apart := false, narrowed := true }
def QueueTakesUptoSaid : Prop := queueTakesUptoRow.holds Try.pinned (OpenSpec.upto queueTakesSpec)

/-- 'ouroboroslaw15.QueueTwice', WHERE WHAT IT READS IS OF BULK AT MOST 1048576: true; the input reads as it did. -/
def queueTwiceUptoRow : OpenClaim := { program := "ythdkofhgdmgdcab", sum := "49318e0f8670d5dc13da09d9d237c17e06a69ad2f09507cc1fd70a042ba588e1", func := "ouroboros/ouroboroslaw15.QueueTwice", spec := "queueTwice", inPlace := ["slices.overlaps[string]"], unfollowed := true, recurses := true, apart := false, narrowed := true }
def QueueTwiceUptoSaid : Prop := queueTwiceUptoRow.holds Try.pinned (OpenSpec.upto queueTwiceSpec)

end Rows
end Go.Proofs.Ythdkofhgdmgdcab
