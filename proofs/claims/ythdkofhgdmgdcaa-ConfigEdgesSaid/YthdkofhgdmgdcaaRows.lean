/-
  No cell of these rows narrows 'for every input' (looked for: loops, veiled, ifaces, maps, wideKeys, modest, calm, conditions, laid).
  DERIVED. THE GIVEN ROWS OF THIS SEAT. 6 by the template 'for every input the law returns true; each argument reads behind the call as it read before'; 0 by the template 'total and deterministic' (their statements: YthdkofhgdmgdcaaTotals.lean).
  GIVEN WITH THE SEED: the statements are not yours to turn. If you find one false, say at which input.
  Laid BY PROGRAM, IN A SANDBOX (cutbox-rows.mjs): the forced cells as the released guide's own fill.sh prints them over the translation 838a92b4e9c190a6… (all of the seat's roots in one cut). By AI agents, Wed Nov 11 2026. No macro, syntax, notation, axiom, sorry.
-/
import Derived.Test.YthdkofhgdmgdcaaChecked
import GoSem.Claim
import GoSem.ClaimJoined
import GoSem.ClaimMapViews
import Derived.JoinedTies
import Derived.KernelRfl
namespace Go.Proofs.Ythdkofhgdmgdcaa
/- THE CELL 'sum', in the pinned program and in every row, IS THE sha256 OF THE DUMP (.gsa) THAT YthdkofhgdmgdcaaProg.lean LOADS. Nothing in Lean hashes anything: it is a label: what it is worth is what the hold of that sum in a sandbox is worth. -/
noncomputable def Try.pinned : Pinned := { name := "ythdkofhgdmgdcaa", sum := "838a92b4e9c190a68b530c4b436f9866f62baa9ad6599b90640c034b4b87e260", checked := Try.checked }
namespace Rows
def none {H : Type} : Left H := { results := [], args := [] }

/-- 'ouroboroslaw11.ConfigTells': WHATEVER THE INPUT: true; the input reads as it did. -/
def configTellsSpec : ChangeSpec := { name := "configTells", fn := fun _ => fun
  | [d] => { results := [.lit (.bool true)], args := [d] }
  | _ => none }
def configTellsRow : OpenClaim := { program := "ythdkofhgdmgdcaa", sum := "838a92b4e9c190a68b530c4b436f9866f62baa9ad6599b90640c034b4b87e260", func := "ouroboros/ouroboroslaw11.ConfigTells", spec := "configTells", unfollowed := true, recurses := true, apart := false }
def ConfigTellsSaid : Prop := configTellsRow.holds Try.pinned (OpenSpec.ofChange configTellsSpec)

/-- ITS FALSE NEIGHBOUR: 'it returns false'. Refute it at one input. -/
def configTellsWrong : ChangeSpec := { name := "configTells", fn := fun _ => fun
  | [d] => { results := [.lit (.bool false)], args := [d] }
  | _ => none }
def ConfigTellsWrongFalsely : Prop := configTellsRow.holds Try.pinned (OpenSpec.ofChange configTellsWrong)

/-- 'ouroboroslaw11.ConfigFits': WHATEVER THE INPUT: true; the input reads as it did. -/
def configFitsSpec : ChangeSpec := { name := "configFits", fn := fun _ => fun
  | [d] => { results := [.lit (.bool true)], args := [d] }
  | _ => none }
def configFitsRow : OpenClaim := { program := "ythdkofhgdmgdcaa", sum := "838a92b4e9c190a68b530c4b436f9866f62baa9ad6599b90640c034b4b87e260", func := "ouroboros/ouroboroslaw11.ConfigFits", spec := "configFits", unfollowed := true, recurses := true, apart := false }
def ConfigFitsSaid : Prop := configFitsRow.holds Try.pinned (OpenSpec.ofChange configFitsSpec)

/-- ITS FALSE NEIGHBOUR: 'it returns false'. Refute it at one input. -/
def configFitsWrong : ChangeSpec := { name := "configFits", fn := fun _ => fun
  | [d] => { results := [.lit (.bool false)], args := [d] }
  | _ => none }
def ConfigFitsWrongFalsely : Prop := configFitsRow.holds Try.pinned (OpenSpec.ofChange configFitsWrong)

/-- 'ouroboroslaw11.ConfigMore': WHATEVER THE INPUT: true; the input reads as it did. -/
def configMoreSpec : ChangeSpec := { name := "configMore", fn := fun _ => fun
  | [d] => { results := [.lit (.bool true)], args := [d] }
  | _ => none }
def configMoreRow : OpenClaim := { program := "ythdkofhgdmgdcaa", sum := "838a92b4e9c190a68b530c4b436f9866f62baa9ad6599b90640c034b4b87e260", func := "ouroboros/ouroboroslaw11.ConfigMore", spec := "configMore", unfollowed := true, recurses := true, apart := false }
def ConfigMoreSaid : Prop := configMoreRow.holds Try.pinned (OpenSpec.ofChange configMoreSpec)

/-- ITS FALSE NEIGHBOUR: 'it returns false'. Refute it at one input. -/
def configMoreWrong : ChangeSpec := { name := "configMore", fn := fun _ => fun
  | [d] => { results := [.lit (.bool false)], args := [d] }
  | _ => none }
def ConfigMoreWrongFalsely : Prop := configMoreRow.holds Try.pinned (OpenSpec.ofChange configMoreWrong)

/-- 'ouroboroslaw11.ConfigEdges': WHATEVER THE INPUT: true; the input reads as it did. -/
def configEdgesSpec : ChangeSpec := { name := "configEdges", fn := fun _ => fun
  | [d1, d2] => { results := [.lit (.bool true)], args := [d1, d2] }
  | _ => none }
def configEdgesRow : OpenClaim := { program := "ythdkofhgdmgdcaa", sum := "838a92b4e9c190a68b530c4b436f9866f62baa9ad6599b90640c034b4b87e260", func := "ouroboros/ouroboroslaw11.ConfigEdges", spec := "configEdges", unfollowed := true, recurses := true, apart := false }
def ConfigEdgesSaid : Prop := configEdgesRow.holds Try.pinned (OpenSpec.ofChange configEdgesSpec)

/-- ITS FALSE NEIGHBOUR: 'it returns false'. Refute it at one input. -/
def configEdgesWrong : ChangeSpec := { name := "configEdges", fn := fun _ => fun
  | [d1, d2] => { results := [.lit (.bool false)], args := [d1, d2] }
  | _ => none }
def ConfigEdgesWrongFalsely : Prop := configEdgesRow.holds Try.pinned (OpenSpec.ofChange configEdgesWrong)

/-- 'ouroboroslaw11.ConfigWork': WHATEVER THE INPUT: true; the input reads as it did. -/
def configWorkSpec : ChangeSpec := { name := "configWork", fn := fun _ => fun
  | [d] => { results := [.lit (.bool true)], args := [d] }
  | _ => none }
def configWorkRow : OpenClaim := { program := "ythdkofhgdmgdcaa", sum := "838a92b4e9c190a68b530c4b436f9866f62baa9ad6599b90640c034b4b87e260", func := "ouroboros/ouroboroslaw11.ConfigWork", spec := "configWork", unfollowed := true, recurses := true, apart := false }
def ConfigWorkSaid : Prop := configWorkRow.holds Try.pinned (OpenSpec.ofChange configWorkSpec)

/-- ITS FALSE NEIGHBOUR: 'it returns false'. Refute it at one input. -/
def configWorkWrong : ChangeSpec := { name := "configWork", fn := fun _ => fun
  | [d] => { results := [.lit (.bool false)], args := [d] }
  | _ => none }
def ConfigWorkWrongFalsely : Prop := configWorkRow.holds Try.pinned (OpenSpec.ofChange configWorkWrong)

/-- 'ouroboroslaw11.ConfigFoot': WHATEVER THE INPUT: true; the input reads as it did. -/
def configFootSpec : ChangeSpec := { name := "configFoot", fn := fun _ => fun
  | [d] => { results := [.lit (.bool true)], args := [d] }
  | _ => none }
def configFootRow : OpenClaim := { program := "ythdkofhgdmgdcaa", sum := "838a92b4e9c190a68b530c4b436f9866f62baa9ad6599b90640c034b4b87e260", func := "ouroboros/ouroboroslaw11.ConfigFoot", spec := "configFoot", unfollowed := true, recurses := true, apart := false }
def ConfigFootSaid : Prop := configFootRow.holds Try.pinned (OpenSpec.ofChange configFootSpec)

/-- ITS FALSE NEIGHBOUR: 'it returns false'. Refute it at one input. -/
def configFootWrong : ChangeSpec := { name := "configFoot", fn := fun _ => fun
  | [d] => { results := [.lit (.bool false)], args := [d] }
  | _ => none }
def ConfigFootWrongFalsely : Prop := configFootRow.holds Try.pinned (OpenSpec.ofChange configFootWrong)

/- THE SECOND FORM. 'bulk': how many values and letters a reading holds, each counted each time it is reached (what is shared counts as often as it is met; a slice's spare places count too). A statement '..UptoSaid' is the law's where the arguments, and the package variables that the reading takes, are together of bulk at most 1048576: NARROWER than '..Said'. Prove '..Said' where nothing that the law and all that it calls make is longer than what came in: it says more and counts as full. Else prove '..UptoSaid'. A law counts once. -/
mutual
def uptoBulk {H : Type} : DataW H → Nat
  | .lit (.string bytes) => bytes.length + 1
  | .lit _ => 1
  | .nil => 1
  | .ptr d => uptoBulk d + 1
  | .slice elems spare => uptoBulkAll elems + uptoBulkAll spare + 1
  | .agg parts => uptoBulkAll parts + 1
  | .iface _ d => uptoBulk d + 1
  | .map entries => uptoBulkEntries entries + 1
  | .held _ => 1
def uptoBulkAll {H : Type} : List (DataW H) → Nat
  | [] => 0
  | d :: r => uptoBulk d + uptoBulkAll r
def uptoBulkEntries {H : Type} : List (Lit × DataW H) → Nat
  | [] => 0
  | x :: r => uptoBulkEntry x + uptoBulkEntries r
def uptoBulkEntry {H : Type} : Lit × DataW H → Nat
  | (.string bytes, d) => bytes.length + uptoBulk d + 1
  | (_, d) => uptoBulk d + 1
 end
def uptoSmall : (H : Type) → List (DataW H) → Bool := fun _ ds => decide (uptoBulkAll ds ≤ 1048576)
def OpenSpec.upto (s : _root_.Go.ChangeSpec) : _root_.Go.OpenSpec := { _root_.Go.OpenSpec.ofChange s with cond := some uptoSmall }

/-- 'ouroboroslaw11.ConfigTells', WHERE WHAT IT READS IS OF BULK AT MOST 1048576: true; the input reads as it did. -/
def configTellsUptoRow : OpenClaim := { program := "ythdkofhgdmgdcaa", sum := "838a92b4e9c190a68b530c4b436f9866f62baa9ad6599b90640c034b4b87e260", func := "ouroboros/ouroboroslaw11.ConfigTells", spec := "configTells", unfollowed := true, recurses := true, apart := false, narrowed := true }
def ConfigTellsUptoSaid : Prop := configTellsUptoRow.holds Try.pinned (OpenSpec.upto configTellsSpec)

/-- 'ouroboroslaw11.ConfigFits', WHERE WHAT IT READS IS OF BULK AT MOST 1048576: true; the input reads as it did. -/
def configFitsUptoRow : OpenClaim := { program := "ythdkofhgdmgdcaa", sum := "838a92b4e9c190a68b530c4b436f9866f62baa9ad6599b90640c034b4b87e260", func := "ouroboros/ouroboroslaw11.ConfigFits", spec := "configFits", unfollowed := true, recurses := true, apart := false, narrowed := true }
def ConfigFitsUptoSaid : Prop := configFitsUptoRow.holds Try.pinned (OpenSpec.upto configFitsSpec)

/-- 'ouroboroslaw11.ConfigMore', WHERE WHAT IT READS IS OF BULK AT MOST 1048576: true; the input reads as it did. -/
def configMoreUptoRow : OpenClaim := { program := "ythdkofhgdmgdcaa", sum := "838a92b4e9c190a68b530c4b436f9866f62baa9ad6599b90640c034b4b87e260", func := "ouroboros/ouroboroslaw11.ConfigMore", spec := "configMore", unfollowed := true, recurses := true, apart := false, narrowed := true }
def ConfigMoreUptoSaid : Prop := configMoreUptoRow.holds Try.pinned (OpenSpec.upto configMoreSpec)

/-- 'ouroboroslaw11.ConfigEdges', WHERE WHAT IT READS IS OF BULK AT MOST 1048576: true; the input reads as it did. -/
def configEdgesUptoRow : OpenClaim := { program := "ythdkofhgdmgdcaa", sum := "838a92b4e9c190a68b530c4b436f9866f62baa9ad6599b90640c034b4b87e260", func := "ouroboros/ouroboroslaw11.ConfigEdges", spec := "configEdges", unfollowed := true, recurses := true, apart := false, narrowed := true }
def ConfigEdgesUptoSaid : Prop := configEdgesUptoRow.holds Try.pinned (OpenSpec.upto configEdgesSpec)

/-- 'ouroboroslaw11.ConfigWork', WHERE WHAT IT READS IS OF BULK AT MOST 1048576: true; the input reads as it did. -/
def configWorkUptoRow : OpenClaim := { program := "ythdkofhgdmgdcaa", sum := "838a92b4e9c190a68b530c4b436f9866f62baa9ad6599b90640c034b4b87e260", func := "ouroboros/ouroboroslaw11.ConfigWork", spec := "configWork", unfollowed := true, recurses := true, apart := false, narrowed := true }
def ConfigWorkUptoSaid : Prop := configWorkUptoRow.holds Try.pinned (OpenSpec.upto configWorkSpec)

/-- 'ouroboroslaw11.ConfigFoot', WHERE WHAT IT READS IS OF BULK AT MOST 1048576: true; the input reads as it did. -/
def configFootUptoRow : OpenClaim := { program := "ythdkofhgdmgdcaa", sum := "838a92b4e9c190a68b530c4b436f9866f62baa9ad6599b90640c034b4b87e260", func := "ouroboros/ouroboroslaw11.ConfigFoot", spec := "configFoot", unfollowed := true, recurses := true, apart := false, narrowed := true }
def ConfigFootUptoSaid : Prop := configFootUptoRow.holds Try.pinned (OpenSpec.upto configFootSpec)

end Rows
end Go.Proofs.Ythdkofhgdmgdcaa
