/-
  No cell of these rows narrows 'for every input' (looked for: loops, veiled, ifaces, maps, wideKeys, modest, calm, conditions, laid).
  DERIVED. THE GIVEN ROWS OF THIS SEAT. 6 by the template 'for every input the law returns true; each argument reads behind the call as it read before'; 0 by the template 'total and deterministic' (their statements: YtmjpidjdbofdjaaGreatTotals.lean).
  GIVEN WITH THE SEED: the statements are not yours to turn. If you find one false, say at which input.
  Laid BY PROGRAM, IN A SANDBOX (cutbox-rows.mjs): the forced cells as the released guide's own fill.sh prints them over the translation e52d7c5058d95659… (all of the seat's roots in one cut). By AI agents, Wed Nov 11 2026. No macro, syntax, notation, axiom, sorry.
-/
import Derived.Test.YtmjpidjdbofdjaaGreatChecked
import GoSem.Claim
import GoSem.ClaimJoined
import GoSem.ClaimMapViews
import Derived.JoinedTies
import Derived.KernelRfl
namespace Go.Proofs.YtmjpidjdbofdjaaGreat
/- THE CELL 'sum', in the pinned program and in every row, IS THE sha256 OF THE DUMP (.gsa) THAT YtmjpidjdbofdjaaGreatProg.lean LOADS. Nothing in Lean hashes anything: it is a label: what it is worth is what the hold of that sum in a sandbox is worth. -/
noncomputable def Tryz.pinned : Pinned := { name := "ytmjpidjdbofdjaagreat", sum := "e52d7c5058d95659d9648d3454aa3b0432c7d9184eb6d60d108a9e630ca27ab7", checked := Tryz.checked }
namespace Rows
def none {H : Type} : Left H := { results := [], args := [] }

/-- 'ouroboroslaw18.ProbeTells': WHATEVER THE INPUT: true; the input reads as it did. -/
def probeTellsSpec : ChangeSpec := { name := "probeTells", fn := fun _ => fun
  | [d1, d2, d3] => { results := [.lit (.bool true)], args := [d1, d2, d3] }
  | _ => none }
def probeTellsRow : OpenClaim := { program := "ytmjpidjdbofdjaagreat", sum := "e52d7c5058d95659d9648d3454aa3b0432c7d9184eb6d60d108a9e630ca27ab7", func := "ouroboros/ouroboroslaw18.ProbeTells", spec := "probeTells", inPlace := ["sync/atomic.LoadUint32", "(*internal/sync.Mutex).Lock", "internal/race.Disable", "sync/atomic.CompareAndSwapInt32", "internal/race.Enable", "internal/race.Acquire", "(*internal/sync.Mutex).lockSlow", "internal/sync.runtime_canSpin", "internal/sync.runtime_doSpin", "internal/sync.throw", "internal/sync.runtime_nanotime", "internal/sync.runtime_SemacquireMutex", "sync/atomic.AddInt32", "(*internal/sync.Mutex).Unlock", "internal/race.ReleaseMerge", "(*internal/sync.Mutex).unlockSlow", "internal/sync.fatal", "internal/sync.runtime_Semrelease", "sync/atomic.StoreUint32", "internal/abi.NoEscape"], unfollowed := true, recurses := true, apart := false }
def ProbeTellsSaid : Prop := probeTellsRow.holds Tryz.pinned (OpenSpec.ofChange probeTellsSpec)

/-- ITS FALSE NEIGHBOUR: 'it returns false'. Refute it at one input. -/
def probeTellsWrong : ChangeSpec := { name := "probeTells", fn := fun _ => fun
  | [d1, d2, d3] => { results := [.lit (.bool false)], args := [d1, d2, d3] }
  | _ => none }
def ProbeTellsWrongFalsely : Prop := probeTellsRow.holds Tryz.pinned (OpenSpec.ofChange probeTellsWrong)

/-- 'ouroboroslaw18.ProbeDone': WHATEVER THE INPUT: true; the input reads as it did. -/
def probeDoneSpec : ChangeSpec := { name := "probeDone", fn := fun _ => fun
  | [d1, d2] => { results := [.lit (.bool true)], args := [d1, d2] }
  | _ => none }
def probeDoneRow : OpenClaim := { program := "ytmjpidjdbofdjaagreat", sum := "e52d7c5058d95659d9648d3454aa3b0432c7d9184eb6d60d108a9e630ca27ab7", func := "ouroboros/ouroboroslaw18.ProbeDone", spec := "probeDone", inPlace := ["sync/atomic.LoadUint32", "(*internal/sync.Mutex).Lock", "internal/race.Disable", "sync/atomic.CompareAndSwapInt32", "internal/race.Enable", "internal/race.Acquire", "(*internal/sync.Mutex).lockSlow", "internal/sync.runtime_canSpin", "internal/sync.runtime_doSpin", "internal/sync.throw", "internal/sync.runtime_nanotime", "internal/sync.runtime_SemacquireMutex", "sync/atomic.AddInt32", "(*internal/sync.Mutex).Unlock", "internal/race.ReleaseMerge", "(*internal/sync.Mutex).unlockSlow", "internal/sync.fatal", "internal/sync.runtime_Semrelease", "sync/atomic.StoreUint32", "internal/abi.NoEscape"], unfollowed := true, recurses := true, apart := false }
def ProbeDoneSaid : Prop := probeDoneRow.holds Tryz.pinned (OpenSpec.ofChange probeDoneSpec)

/-- ITS FALSE NEIGHBOUR: 'it returns false'. Refute it at one input. -/
def probeDoneWrong : ChangeSpec := { name := "probeDone", fn := fun _ => fun
  | [d1, d2] => { results := [.lit (.bool false)], args := [d1, d2] }
  | _ => none }
def ProbeDoneWrongFalsely : Prop := probeDoneRow.holds Tryz.pinned (OpenSpec.ofChange probeDoneWrong)

/-- 'ouroboroslaw18.ProbeBounds': WHATEVER THE INPUT: true; the input reads as it did. -/
def probeBoundsSpec : ChangeSpec := { name := "probeBounds", fn := fun _ => fun
  | [d1, d2, d3] => { results := [.lit (.bool true)], args := [d1, d2, d3] }
  | _ => none }
def probeBoundsRow : OpenClaim := { program := "ytmjpidjdbofdjaagreat", sum := "e52d7c5058d95659d9648d3454aa3b0432c7d9184eb6d60d108a9e630ca27ab7", func := "ouroboros/ouroboroslaw18.ProbeBounds", spec := "probeBounds", inPlace := ["sync/atomic.LoadUint32", "(*internal/sync.Mutex).Lock", "internal/race.Disable", "sync/atomic.CompareAndSwapInt32", "internal/race.Enable", "internal/race.Acquire", "(*internal/sync.Mutex).lockSlow", "internal/sync.runtime_canSpin", "internal/sync.runtime_doSpin", "internal/sync.throw", "internal/sync.runtime_nanotime", "internal/sync.runtime_SemacquireMutex", "sync/atomic.AddInt32", "(*internal/sync.Mutex).Unlock", "internal/race.ReleaseMerge", "(*internal/sync.Mutex).unlockSlow", "internal/sync.fatal", "internal/sync.runtime_Semrelease", "sync/atomic.StoreUint32", "internal/abi.NoEscape"], unfollowed := true, recurses := true, apart := false }
def ProbeBoundsSaid : Prop := probeBoundsRow.holds Tryz.pinned (OpenSpec.ofChange probeBoundsSpec)

/-- ITS FALSE NEIGHBOUR: 'it returns false'. Refute it at one input. -/
def probeBoundsWrong : ChangeSpec := { name := "probeBounds", fn := fun _ => fun
  | [d1, d2, d3] => { results := [.lit (.bool false)], args := [d1, d2, d3] }
  | _ => none }
def ProbeBoundsWrongFalsely : Prop := probeBoundsRow.holds Tryz.pinned (OpenSpec.ofChange probeBoundsWrong)

/-- 'ouroboroslaw18.ProbeThree': WHATEVER THE INPUT: true; the input reads as it did. -/
def probeThreeSpec : ChangeSpec := { name := "probeThree", fn := fun _ => fun
  | [d1, d2] => { results := [.lit (.bool true)], args := [d1, d2] }
  | _ => none }
def probeThreeRow : OpenClaim := { program := "ytmjpidjdbofdjaagreat", sum := "e52d7c5058d95659d9648d3454aa3b0432c7d9184eb6d60d108a9e630ca27ab7", func := "ouroboros/ouroboroslaw18.ProbeThree", spec := "probeThree", inPlace := ["sync/atomic.LoadUint32", "(*internal/sync.Mutex).Lock", "internal/race.Disable", "sync/atomic.CompareAndSwapInt32", "internal/race.Enable", "internal/race.Acquire", "(*internal/sync.Mutex).lockSlow", "internal/sync.runtime_canSpin", "internal/sync.runtime_doSpin", "internal/sync.throw", "internal/sync.runtime_nanotime", "internal/sync.runtime_SemacquireMutex", "sync/atomic.AddInt32", "(*internal/sync.Mutex).Unlock", "internal/race.ReleaseMerge", "(*internal/sync.Mutex).unlockSlow", "internal/sync.fatal", "internal/sync.runtime_Semrelease", "sync/atomic.StoreUint32", "internal/abi.NoEscape"], unfollowed := true, recurses := true, apart := false }
def ProbeThreeSaid : Prop := probeThreeRow.holds Tryz.pinned (OpenSpec.ofChange probeThreeSpec)

/-- ITS FALSE NEIGHBOUR: 'it returns false'. Refute it at one input. -/
def probeThreeWrong : ChangeSpec := { name := "probeThree", fn := fun _ => fun
  | [d1, d2] => { results := [.lit (.bool false)], args := [d1, d2] }
  | _ => none }
def ProbeThreeWrongFalsely : Prop := probeThreeRow.holds Tryz.pinned (OpenSpec.ofChange probeThreeWrong)

/-- 'ouroboroslaw18.ProbeAlike': WHATEVER THE INPUT: true; the input reads as it did. -/
def probeAlikeSpec : ChangeSpec := { name := "probeAlike", fn := fun _ => fun
  | [d1, d2, d3] => { results := [.lit (.bool true)], args := [d1, d2, d3] }
  | _ => none }
def probeAlikeRow : OpenClaim := { program := "ytmjpidjdbofdjaagreat", sum := "e52d7c5058d95659d9648d3454aa3b0432c7d9184eb6d60d108a9e630ca27ab7", func := "ouroboros/ouroboroslaw18.ProbeAlike", spec := "probeAlike", inPlace := ["sync/atomic.LoadUint32", "(*internal/sync.Mutex).Lock", "internal/race.Disable", "sync/atomic.CompareAndSwapInt32", "internal/race.Enable", "internal/race.Acquire", "(*internal/sync.Mutex).lockSlow", "internal/sync.runtime_canSpin", "internal/sync.runtime_doSpin", "internal/sync.throw", "internal/sync.runtime_nanotime", "internal/sync.runtime_SemacquireMutex", "sync/atomic.AddInt32", "(*internal/sync.Mutex).Unlock", "internal/race.ReleaseMerge", "(*internal/sync.Mutex).unlockSlow", "internal/sync.fatal", "internal/sync.runtime_Semrelease", "sync/atomic.StoreUint32", "internal/abi.NoEscape"], unfollowed := true, recurses := true, apart := false }
def ProbeAlikeSaid : Prop := probeAlikeRow.holds Tryz.pinned (OpenSpec.ofChange probeAlikeSpec)

/-- ITS FALSE NEIGHBOUR: 'it returns false'. Refute it at one input. -/
def probeAlikeWrong : ChangeSpec := { name := "probeAlike", fn := fun _ => fun
  | [d1, d2, d3] => { results := [.lit (.bool false)], args := [d1, d2, d3] }
  | _ => none }
def ProbeAlikeWrongFalsely : Prop := probeAlikeRow.holds Tryz.pinned (OpenSpec.ofChange probeAlikeWrong)

/-- 'ouroboroslaw18.ProbeAsks': WHATEVER THE INPUT: true; the input reads as it did. -/
def probeAsksSpec : ChangeSpec := { name := "probeAsks", fn := fun _ => fun
  | [d1, d2, d3] => { results := [.lit (.bool true)], args := [d1, d2, d3] }
  | _ => none }
def probeAsksRow : OpenClaim := { program := "ytmjpidjdbofdjaagreat", sum := "e52d7c5058d95659d9648d3454aa3b0432c7d9184eb6d60d108a9e630ca27ab7", func := "ouroboros/ouroboroslaw18.ProbeAsks", spec := "probeAsks", inPlace := ["sync/atomic.LoadUint32", "(*internal/sync.Mutex).Lock", "internal/race.Disable", "sync/atomic.CompareAndSwapInt32", "internal/race.Enable", "internal/race.Acquire", "(*internal/sync.Mutex).lockSlow", "internal/sync.runtime_canSpin", "internal/sync.runtime_doSpin", "internal/sync.throw", "internal/sync.runtime_nanotime", "internal/sync.runtime_SemacquireMutex", "sync/atomic.AddInt32", "(*internal/sync.Mutex).Unlock", "internal/race.ReleaseMerge", "(*internal/sync.Mutex).unlockSlow", "internal/sync.fatal", "internal/sync.runtime_Semrelease", "sync/atomic.StoreUint32", "internal/abi.NoEscape"], unfollowed := true, recurses := true, apart := false }
def ProbeAsksSaid : Prop := probeAsksRow.holds Tryz.pinned (OpenSpec.ofChange probeAsksSpec)

/-- ITS FALSE NEIGHBOUR: 'it returns false'. Refute it at one input. -/
def probeAsksWrong : ChangeSpec := { name := "probeAsks", fn := fun _ => fun
  | [d1, d2, d3] => { results := [.lit (.bool false)], args := [d1, d2, d3] }
  | _ => none }
def ProbeAsksWrongFalsely : Prop := probeAsksRow.holds Tryz.pinned (OpenSpec.ofChange probeAsksWrong)

/- THE SECOND FORM. 'bulk': how many values and letters a reading holds, each counted each time it is reached (what is shared counts as often as it is met; a slice's spare places count too). A statement '..UptoSaid' is the law's where the arguments, and the package variables that the reading takes, are together of bulk at most 1048576: NARROWER than '..Said'. Prove '..Said' where nothing that the law and all that it calls make is longer than what came in: it says more and counts as full. Else prove '..UptoSaid'. A law counts once. -/
mutual
def uptoBulk {H : Type} : DataW H → Nat
  | .lit (.string bytes) => bytes.length + 1
  | .lit _ => 1
  | .nil => 1
  | .ptr d => uptoBulk d + 1
  | .slice elems spare => uptoBulkAll elems + uptoBulkAll spare + 1
  | .agg parts => uptoBulkAll parts + 1
  | .iface _ d => uptoBulk d + 1
  | .map entries => uptoBulkEntries entries + 1
  | .held _ => 1
def uptoBulkAll {H : Type} : List (DataW H) → Nat
  | [] => 0
  | d :: r => uptoBulk d + uptoBulkAll r
def uptoBulkEntries {H : Type} : List (Lit × DataW H) → Nat
  | [] => 0
  | x :: r => uptoBulkEntry x + uptoBulkEntries r
def uptoBulkEntry {H : Type} : Lit × DataW H → Nat
  | (.string bytes, d) => bytes.length + uptoBulk d + 1
  | (_, d) => uptoBulk d + 1
 end
def uptoSmall : (H : Type) → List (DataW H) → Bool := fun _ ds => decide (uptoBulkAll ds ≤ 1048576)
def OpenSpec.upto (s : _root_.Go.ChangeSpec) : _root_.Go.OpenSpec := { _root_.Go.OpenSpec.ofChange s with cond := some uptoSmall }

/-- 'ouroboroslaw18.ProbeTells', WHERE WHAT IT READS IS OF BULK AT MOST 1048576: true; the input reads as it did. -/
def probeTellsUptoRow : OpenClaim := { program := "ytmjpidjdbofdjaagreat", sum := "e52d7c5058d95659d9648d3454aa3b0432c7d9184eb6d60d108a9e630ca27ab7", func := "ouroboros/ouroboroslaw18.ProbeTells", spec := "probeTells", inPlace := ["sync/atomic.LoadUint32", "(*internal/sync.Mutex).Lock", "internal/race.Disable", "sync/atomic.CompareAndSwapInt32", "internal/race.Enable", "internal/race.Acquire", "(*internal/sync.Mutex).lockSlow", "internal/sync.runtime_canSpin", "internal/sync.runtime_doSpin", "internal/sync.throw", "internal/sync.runtime_nanotime", "internal/sync.runtime_SemacquireMutex", "sync/atomic.AddInt32", "(*internal/sync.Mutex).Unlock", "internal/race.ReleaseMerge", "(*internal/sync.Mutex).unlockSlow", "internal/sync.fatal", "internal/sync.runtime_Semrelease", "sync/atomic.StoreUint32", "internal/abi.NoEscape"], unfollowed := true, recurses := true, apart := false, narrowed := true }
def ProbeTellsUptoSaid : Prop := probeTellsUptoRow.holds Tryz.pinned (OpenSpec.upto probeTellsSpec)

/-- 'ouroboroslaw18.ProbeDone', WHERE WHAT IT READS IS OF BULK AT MOST 1048576: true; the input reads as it did. -/
def probeDoneUptoRow : OpenClaim := { program := "ytmjpidjdbofdjaagreat", sum := "e52d7c5058d95659d9648d3454aa3b0432c7d9184eb6d60d108a9e630ca27ab7", func := "ouroboros/ouroboroslaw18.ProbeDone", spec := "probeDone", inPlace := ["sync/atomic.LoadUint32", "(*internal/sync.Mutex).Lock", "internal/race.Disable", "sync/atomic.CompareAndSwapInt32", "internal/race.Enable", "internal/race.Acquire", "(*internal/sync.Mutex).lockSlow", "internal/sync.runtime_canSpin", "internal/sync.runtime_doSpin", "internal/sync.throw", "internal/sync.runtime_nanotime", "internal/sync.runtime_SemacquireMutex", "sync/atomic.AddInt32", "(*internal/sync.Mutex).Unlock", "internal/race.ReleaseMerge", "(*internal/sync.Mutex).unlockSlow", "internal/sync.fatal", "internal/sync.runtime_Semrelease", "sync/atomic.StoreUint32", "internal/abi.NoEscape"], unfollowed := true, recurses := true, apart := false, narrowed := true }
def ProbeDoneUptoSaid : Prop := probeDoneUptoRow.holds Tryz.pinned (OpenSpec.upto probeDoneSpec)

/-- 'ouroboroslaw18.ProbeBounds', WHERE WHAT IT READS IS OF BULK AT MOST 1048576: true; the input reads as it did. -/
def probeBoundsUptoRow : OpenClaim := { program := "ytmjpidjdbofdjaagreat", sum := "e52d7c5058d95659d9648d3454aa3b0432c7d9184eb6d60d108a9e630ca27ab7", func := "ouroboros/ouroboroslaw18.ProbeBounds", spec := "probeBounds", inPlace := ["sync/atomic.LoadUint32", "(*internal/sync.Mutex).Lock", "internal/race.Disable", "sync/atomic.CompareAndSwapInt32", "internal/race.Enable", "internal/race.Acquire", "(*internal/sync.Mutex).lockSlow", "internal/sync.runtime_canSpin", "internal/sync.runtime_doSpin", "internal/sync.throw", "internal/sync.runtime_nanotime", "internal/sync.runtime_SemacquireMutex", "sync/atomic.AddInt32", "(*internal/sync.Mutex).Unlock", "internal/race.ReleaseMerge", "(*internal/sync.Mutex).unlockSlow", "internal/sync.fatal", "internal/sync.runtime_Semrelease", "sync/atomic.StoreUint32", "internal/abi.NoEscape"], unfollowed := true, recurses := true, apart := false, narrowed := true }
def ProbeBoundsUptoSaid : Prop := probeBoundsUptoRow.holds Tryz.pinned (OpenSpec.upto probeBoundsSpec)

/-- 'ouroboroslaw18.ProbeThree', WHERE WHAT IT READS IS OF BULK AT MOST 1048576: true; the input reads as it did. -/
def probeThreeUptoRow : OpenClaim := { program := "ytmjpidjdbofdjaagreat", sum := "e52d7c5058d95659d9648d3454aa3b0432c7d9184eb6d60d108a9e630ca27ab7", func := "ouroboros/ouroboroslaw18.ProbeThree", spec := "probeThree", inPlace := ["sync/atomic.LoadUint32", "(*internal/sync.Mutex).Lock", "internal/race.Disable", "sync/atomic.CompareAndSwapInt32", "internal/race.Enable", "internal/race.Acquire", "(*internal/sync.Mutex).lockSlow", "internal/sync.runtime_canSpin", "internal/sync.runtime_doSpin", "internal/sync.throw", "internal/sync.runtime_nanotime", "internal/sync.runtime_SemacquireMutex", "sync/atomic.AddInt32", "(*internal/sync.Mutex).Unlock", "internal/race.ReleaseMerge", "(*internal/sync.Mutex).unlockSlow", "internal/sync.fatal", "internal/sync.runtime_Semrelease", "sync/atomic.StoreUint32", "internal/abi.NoEscape"], unfollowed := true, recurses := true, apart := false, narrowed := true }
def ProbeThreeUptoSaid : Prop := probeThreeUptoRow.holds Tryz.pinned (OpenSpec.upto probeThreeSpec)

/-- 'ouroboroslaw18.ProbeAlike', WHERE WHAT IT READS IS OF BULK AT MOST 1048576: true; the input reads as it did. -/
def probeAlikeUptoRow : OpenClaim := { program := "ytmjpidjdbofdjaagreat", sum := "e52d7c5058d95659d9648d3454aa3b0432c7d9184eb6d60d108a9e630ca27ab7", func := "ouroboros/ouroboroslaw18.ProbeAlike", spec := "probeAlike", inPlace := ["sync/atomic.LoadUint32", "(*internal/sync.Mutex).Lock", "internal/race.Disable", "sync/atomic.CompareAndSwapInt32", "internal/race.Enable", "internal/race.Acquire", "(*internal/sync.Mutex).lockSlow", "internal/sync.runtime_canSpin", "internal/sync.runtime_doSpin", "internal/sync.throw", "internal/sync.runtime_nanotime", "internal/sync.runtime_SemacquireMutex", "sync/atomic.AddInt32", "(*internal/sync.Mutex).Unlock", "internal/race.ReleaseMerge", "(*internal/sync.Mutex).unlockSlow", "internal/sync.fatal", "internal/sync.runtime_Semrelease", "sync/atomic.StoreUint32", "internal/abi.NoEscape"], unfollowed := true, recurses := true, apart := false, narrowed := true }
def ProbeAlikeUptoSaid : Prop := probeAlikeUptoRow.holds Tryz.pinned (OpenSpec.upto probeAlikeSpec)

/-- 'ouroboroslaw18.ProbeAsks', WHERE WHAT IT READS IS OF BULK AT MOST 1048576: true; the input reads as it did. -/
def probeAsksUptoRow : OpenClaim := { program := "ytmjpidjdbofdjaagreat", sum := "e52d7c5058d95659d9648d3454aa3b0432c7d9184eb6d60d108a9e630ca27ab7", func := "ouroboros/ouroboroslaw18.ProbeAsks", spec := "probeAsks", inPlace := ["sync/atomic.LoadUint32", "(*internal/sync.Mutex).Lock", "internal/race.Disable", "sync/atomic.CompareAndSwapInt32", "internal/race.Enable", "internal/race.Acquire", "(*internal/sync.Mutex).lockSlow", "internal/sync.runtime_canSpin", "internal/sync.runtime_doSpin", "internal/sync.throw", "internal/sync.runtime_nanotime", "internal/sync.runtime_SemacquireMutex", "sync/atomic.AddInt32", "(*internal/sync.Mutex).Unlock", "internal/race.ReleaseMerge", "(*internal/sync.Mutex).unlockSlow", "internal/sync.fatal", "internal/sync.runtime_Semrelease", "sync/atomic.StoreUint32", "internal/abi.NoEscape"], unfollowed := true, recurses := true, apart := false, narrowed := true }
def ProbeAsksUptoSaid : Prop := probeAsksUptoRow.holds Tryz.pinned (OpenSpec.upto probeAsksSpec)

end Rows
end Go.Proofs.YtmjpidjdbofdjaaGreat
