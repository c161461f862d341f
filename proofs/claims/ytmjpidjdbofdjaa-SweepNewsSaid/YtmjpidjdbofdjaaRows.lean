/-
  No cell of these rows narrows 'for every input' (looked for: loops, veiled, ifaces, maps, wideKeys, modest, calm, conditions, laid).
  DERIVED. THE GIVEN ROWS OF THIS SEAT. 4 by the template 'for every input the law returns true; each argument reads behind the call as it read before'; 0 by the template 'total and deterministic' (their statements: YtmjpidjdbofdjaaTotals.lean).
  GIVEN WITH THE SEED: the statements are not yours to turn. If you find one false, say at which input.
  Laid BY PROGRAM, IN A SANDBOX (cutbox-rows.mjs): the forced cells as the released guide's own fill.sh prints them over the translation 680c656a6f296d9d… (all of the seat's roots in one cut). By AI agents, Wed Nov 11 2026. No macro, syntax, notation, axiom, sorry.
-/
import Derived.Test.YtmjpidjdbofdjaaChecked
import GoSem.Claim
import GoSem.ClaimJoined
import GoSem.ClaimMapViews
import Derived.JoinedTies
import Derived.KernelRfl
namespace Go.Proofs.Ytmjpidjdbofdjaa
/- THE CELL 'sum', in the pinned program and in every row, IS THE sha256 OF THE DUMP (.gsa) THAT YtmjpidjdbofdjaaProg.lean LOADS. Nothing in Lean hashes anything: it is a label: what it is worth is what the hold of that sum in a sandbox is worth. -/
noncomputable def Try.pinned : Pinned := { name := "ytmjpidjdbofdjaa", sum := "680c656a6f296d9d96da12925536f96470d403978fa6561a56f9d4946960489d", checked := Try.checked }
namespace Rows
def none {H : Type} : Left H := { results := [], args := [] }

/-- 'ouroboroslaw19.SweepAll': WHATEVER THE INPUT: true; the input reads as it did. -/
def sweepAllSpec : ChangeSpec := { name := "sweepAll", fn := fun _ => fun
  | [d1, d2, d3] => { results := [.lit (.bool true)], args := [d1, d2, d3] }
  | _ => none }
def sweepAllRow : OpenClaim := { program := "ytmjpidjdbofdjaa", sum := "680c656a6f296d9d96da12925536f96470d403978fa6561a56f9d4946960489d", func := "ouroboros/ouroboroslaw19.SweepAll", spec := "sweepAll", unfollowed := true, recurses := true, apart := false }
def SweepAllSaid : Prop := sweepAllRow.holds Try.pinned (OpenSpec.ofChange sweepAllSpec)

/-- ITS FALSE NEIGHBOUR: 'it returns false'. Refute it at one input. -/
def sweepAllWrong : ChangeSpec := { name := "sweepAll", fn := fun _ => fun
  | [d1, d2, d3] => { results := [.lit (.bool false)], args := [d1, d2, d3] }
  | _ => none }
def SweepAllWrongFalsely : Prop := sweepAllRow.holds Try.pinned (OpenSpec.ofChange sweepAllWrong)

/-- 'ouroboroslaw19.SweepStays': WHATEVER THE INPUT: true; the input reads as it did. -/
def sweepStaysSpec : ChangeSpec := { name := "sweepStays", fn := fun _ => fun
  | [d1, d2, d3, d4] => { results := [.lit (.bool true)], args := [d1, d2, d3, d4] }
  | _ => none }
def sweepStaysRow : OpenClaim := { program := "ytmjpidjdbofdjaa", sum := "680c656a6f296d9d96da12925536f96470d403978fa6561a56f9d4946960489d", func := "ouroboros/ouroboroslaw19.SweepStays", spec := "sweepStays", unfollowed := true, recurses := true, apart := false }
def SweepStaysSaid : Prop := sweepStaysRow.holds Try.pinned (OpenSpec.ofChange sweepStaysSpec)

/-- ITS FALSE NEIGHBOUR: 'it returns false'. Refute it at one input. -/
def sweepStaysWrong : ChangeSpec := { name := "sweepStays", fn := fun _ => fun
  | [d1, d2, d3, d4] => { results := [.lit (.bool false)], args := [d1, d2, d3, d4] }
  | _ => none }
def SweepStaysWrongFalsely : Prop := sweepStaysRow.holds Try.pinned (OpenSpec.ofChange sweepStaysWrong)

/-- 'ouroboroslaw19.SweepBounds': WHATEVER THE INPUT: true; the input reads as it did. -/
def sweepBoundsSpec : ChangeSpec := { name := "sweepBounds", fn := fun _ => fun
  | [d1, d2, d3] => { results := [.lit (.bool true)], args := [d1, d2, d3] }
  | _ => none }
def sweepBoundsRow : OpenClaim := { program := "ytmjpidjdbofdjaa", sum := "680c656a6f296d9d96da12925536f96470d403978fa6561a56f9d4946960489d", func := "ouroboros/ouroboroslaw19.SweepBounds", spec := "sweepBounds", unfollowed := true, recurses := true, apart := false }
def SweepBoundsSaid : Prop := sweepBoundsRow.holds Try.pinned (OpenSpec.ofChange sweepBoundsSpec)

/-- ITS FALSE NEIGHBOUR: 'it returns false'. Refute it at one input. -/
def sweepBoundsWrong : ChangeSpec := { name := "sweepBounds", fn := fun _ => fun
  | [d1, d2, d3] => { results := [.lit (.bool false)], args := [d1, d2, d3] }
  | _ => none }
def SweepBoundsWrongFalsely : Prop := sweepBoundsRow.holds Try.pinned (OpenSpec.ofChange sweepBoundsWrong)

/-- 'ouroboroslaw19.SweepNews': WHATEVER THE INPUT: true; the input reads as it did. -/
def sweepNewsSpec : ChangeSpec := { name := "sweepNews", fn := fun _ => fun
  | [d1, d2, d3] => { results := [.lit (.bool true)], args := [d1, d2, d3] }
  | _ => none }
def sweepNewsRow : OpenClaim := { program := "ytmjpidjdbofdjaa", sum := "680c656a6f296d9d96da12925536f96470d403978fa6561a56f9d4946960489d", func := "ouroboros/ouroboroslaw19.SweepNews", spec := "sweepNews", unfollowed := true, recurses := true, apart := false }
def SweepNewsSaid : Prop := sweepNewsRow.holds Try.pinned (OpenSpec.ofChange sweepNewsSpec)

/-- ITS FALSE NEIGHBOUR: 'it returns false'. Refute it at one input. -/
def sweepNewsWrong : ChangeSpec := { name := "sweepNews", fn := fun _ => fun
  | [d1, d2, d3] => { results := [.lit (.bool false)], args := [d1, d2, d3] }
  | _ => none }
def SweepNewsWrongFalsely : Prop := sweepNewsRow.holds Try.pinned (OpenSpec.ofChange sweepNewsWrong)

/- THE SECOND FORM. 'bulk': how many values and letters a reading holds, each counted each time it is reached (what is shared counts as often as it is met; a slice's spare places count too). A statement '..UptoSaid' is the law's where the arguments, and the package variables that the reading takes, are together of bulk at most 1048576: NARROWER than '..Said'. Prove '..Said' where nothing that the law and all that it calls make is longer than what came in: it says more and counts as full. Else prove '..UptoSaid'. A law counts once. -/
mutual
def uptoBulk {H : Type} : DataW H → Nat
  | .lit (.string bytes) => bytes.length + 1
  | .lit _ => 1
  | .nil => 1
  | .ptr d => uptoBulk d + 1
  | .slice elems spare => uptoBulkAll elems + uptoBulkAll spare + 1
  | .agg parts => uptoBulkAll parts + 1
  | .iface _ d => uptoBulk d + 1
  | .map entries => uptoBulkEntries entries + 1
  | .held _ => 1
def uptoBulkAll {H : Type} : List (DataW H) → Nat
  | [] => 0
  | d :: r => uptoBulk d + uptoBulkAll r
def uptoBulkEntries {H : Type} : List (Lit × DataW H) → Nat
  | [] => 0
  | x :: r => uptoBulkEntry x + uptoBulkEntries r
def uptoBulkEntry {H : Type} : Lit × DataW H → Nat
  | (.string bytes, d) => bytes.length + uptoBulk d + 1
  | (_, d) => uptoBulk d + 1
 end
def uptoSmall : (H : Type) → List (DataW H) → Bool := fun _ ds => decide (uptoBulkAll ds ≤ 1048576)
def OpenSpec.upto (s : _root_.Go.ChangeSpec) : _root_.Go.OpenSpec := { _root_.Go.OpenSpec.ofChange s with cond := some uptoSmall }

/-- 'ouroboroslaw19.SweepAll', WHERE WHAT IT READS IS OF BULK AT MOST 1048576: true; the input reads as it did. -/
def sweepAllUptoRow : OpenClaim := { program := "ytmjpidjdbofdjaa", sum := "680c656a6f296d9d96da12925536f96470d403978fa6561a56f9d4946960489d", func := "ouroboros/ouroboroslaw19.SweepAll", spec := "sweepAll", unfollowed := true, recurses := true, apart := false, narrowed := true }
def SweepAllUptoSaid : Prop := sweepAllUptoRow.holds Try.pinned (OpenSpec.upto sweepAllSpec)

/-- 'ouroboroslaw19.SweepStays', WHERE WHAT IT READS IS OF BULK AT MOST 1048576: true; the input reads as it did. -/
def sweepStaysUptoRow : OpenClaim := { program := "ytmjpidjdbofdjaa", sum := "680c656a6f296d9d96da12925536f96470d403978fa6561a56f9d4946960489d", func := "ouroboros/ouroboroslaw19.SweepStays", spec := "sweepStays", unfollowed := true, recurses := true, apart := false, narrowed := true }
def SweepStaysUptoSaid : Prop := sweepStaysUptoRow.holds Try.pinned (OpenSpec.upto sweepStaysSpec)

/-- 'ouroboroslaw19.SweepBounds', WHERE WHAT IT READS IS OF BULK AT MOST 1048576: true; the input reads as it did. -/
def sweepBoundsUptoRow : OpenClaim := { program := "ytmjpidjdbofdjaa", sum := "680c656a6f296d9d96da12925536f96470d403978fa6561a56f9d4946960489d", func := "ouroboros/ouroboroslaw19.SweepBounds", spec := "sweepBounds", unfollowed := true, recurses := true, apart := false, narrowed := true }
def SweepBoundsUptoSaid : Prop := sweepBoundsUptoRow.holds Try.pinned (OpenSpec.upto sweepBoundsSpec)

/-- 'ouroboroslaw19.SweepNews', WHERE WHAT IT READS IS OF BULK AT MOST 1048576: true; the input reads as it did. -/
def sweepNewsUptoRow : OpenClaim := { program := "ytmjpidjdbofdjaa", sum := "680c656a6f296d9d96da12925536f96470d403978fa6561a56f9d4946960489d", func := "ouroboros/ouroboroslaw19.SweepNews", spec := "sweepNews", unfollowed := true, recurses := true, apart := false, narrowed := true }
def SweepNewsUptoSaid : Prop := sweepNewsUptoRow.holds Try.pinned (OpenSpec.upto sweepNewsSpec)

end Rows
end Go.Proofs.Ytmjpidjdbofdjaa
