/-
  No cell of these rows narrows 'for every input' (looked for: loops, veiled, ifaces, maps, wideKeys, modest, calm, conditions, laid).
  DERIVED. THE GIVEN ROWS OF THIS SEAT. 9 by the template 'for every input the law returns true; each argument reads behind the call as it read before'; 0 by the template 'total and deterministic' (their statements: YtgcojbgkenndhaaTotals.lean).
  GIVEN WITH THE SEED: the statements are not yours to turn. If you find one false, say at which input.
  Laid BY PROGRAM, IN A SANDBOX (cutbox-rows.mjs): the forced cells as the released guide's own fill.sh prints them over the translation 48d76bab872d619e… (all of the seat's roots in one cut). By AI agents, Wed Nov 11 2026. No macro, syntax, notation, axiom, sorry.
-/
import Derived.Test.YtgcojbgkenndhaaChecked
import GoSem.Claim
import GoSem.ClaimJoined
import GoSem.ClaimMapViews
import Derived.JoinedTies
import Derived.KernelRfl
namespace Go.Proofs.Ytgcojbgkenndhaa
/- THE CELL 'sum', in the pinned program and in every row, IS THE sha256 OF THE DUMP (.gsa) THAT YtgcojbgkenndhaaProg.lean LOADS. Nothing in Lean hashes anything: it is a label: what it is worth is what the hold of that sum in a sandbox is worth. -/
noncomputable def Try.pinned : Pinned := { name := "ytgcojbgkenndhaa", sum := "48d76bab872d619e7256b63376b7425626577b9421ad226f415a78068d2c9664", checked := Try.checked }
namespace Rows
def none {H : Type} : Left H := { results := [], args := [] }

/-- 'bellmanlaw09.EpochSafe': WHATEVER THE INPUT: true; the input reads as it did. -/
def epochSafeSpec : ChangeSpec := { name := "epochSafe", fn := fun _ => fun
  | [d] => { results := [.lit (.bool true)], args := [d] }
  | _ => none }
def epochSafeRow : OpenClaim := { program := "ytgcojbgkenndhaa", sum := "48d76bab872d619e7256b63376b7425626577b9421ad226f415a78068d2c9664", func := "bellman/bellmanlaw09.EpochSafe", spec := "epochSafe", unfollowed := true, recurses := true, apart := false }
def EpochSafeSaid : Prop := epochSafeRow.holds Try.pinned (OpenSpec.ofChange epochSafeSpec)

/-- ITS FALSE NEIGHBOUR: 'it returns false'. Refute it at one input. -/
def epochSafeWrong : ChangeSpec := { name := "epochSafe", fn := fun _ => fun
  | [d] => { results := [.lit (.bool false)], args := [d] }
  | _ => none }
def EpochSafeWrongFalsely : Prop := epochSafeRow.holds Try.pinned (OpenSpec.ofChange epochSafeWrong)

/-- 'bellmanlaw09.EpochPlays': WHATEVER THE INPUT: true; the input reads as it did. -/
def epochPlaysSpec : ChangeSpec := { name := "epochPlays", fn := fun _ => fun
  | [d1, d2] => { results := [.lit (.bool true)], args := [d1, d2] }
  | _ => none }
def epochPlaysRow : OpenClaim := { program := "ytgcojbgkenndhaa", sum := "48d76bab872d619e7256b63376b7425626577b9421ad226f415a78068d2c9664", func := "bellman/bellmanlaw09.EpochPlays", spec := "epochPlays", unfollowed := true, recurses := true, apart := false }
def EpochPlaysSaid : Prop := epochPlaysRow.holds Try.pinned (OpenSpec.ofChange epochPlaysSpec)

/-- ITS FALSE NEIGHBOUR: 'it returns false'. Refute it at one input. -/
def epochPlaysWrong : ChangeSpec := { name := "epochPlays", fn := fun _ => fun
  | [d1, d2] => { results := [.lit (.bool false)], args := [d1, d2] }
  | _ => none }
def EpochPlaysWrongFalsely : Prop := epochPlaysRow.holds Try.pinned (OpenSpec.ofChange epochPlaysWrong)

/-- 'bellmanlaw09.EpochNone': WHATEVER THE INPUT: true; the input reads as it did. -/
def epochNoneSpec : ChangeSpec := { name := "epochNone", fn := fun _ => fun
  | [d1, d2] => { results := [.lit (.bool true)], args := [d1, d2] }
  | _ => none }
def epochNoneRow : OpenClaim := { program := "ytgcojbgkenndhaa", sum := "48d76bab872d619e7256b63376b7425626577b9421ad226f415a78068d2c9664", func := "bellman/bellmanlaw09.EpochNone", spec := "epochNone", unfollowed := true, recurses := true, apart := false }
def EpochNoneSaid : Prop := epochNoneRow.holds Try.pinned (OpenSpec.ofChange epochNoneSpec)

/-- ITS FALSE NEIGHBOUR: 'it returns false'. Refute it at one input. -/
def epochNoneWrong : ChangeSpec := { name := "epochNone", fn := fun _ => fun
  | [d1, d2] => { results := [.lit (.bool false)], args := [d1, d2] }
  | _ => none }
def EpochNoneWrongFalsely : Prop := epochNoneRow.holds Try.pinned (OpenSpec.ofChange epochNoneWrong)

/-- 'bellmanlaw07.HistPlays': WHATEVER THE INPUT: true; the input reads as it did. -/
def histPlaysSpec : ChangeSpec := { name := "histPlays", fn := fun _ => fun
  | [d] => { results := [.lit (.bool true)], args := [d] }
  | _ => none }
def histPlaysRow : OpenClaim := { program := "ytgcojbgkenndhaa", sum := "48d76bab872d619e7256b63376b7425626577b9421ad226f415a78068d2c9664", func := "bellman/bellmanlaw07.HistPlays", spec := "histPlays", unfollowed := true, recurses := true, apart := false }
def HistPlaysSaid : Prop := histPlaysRow.holds Try.pinned (OpenSpec.ofChange histPlaysSpec)

/-- ITS FALSE NEIGHBOUR: 'it returns false'. Refute it at one input. -/
def histPlaysWrong : ChangeSpec := { name := "histPlays", fn := fun _ => fun
  | [d] => { results := [.lit (.bool false)], args := [d] }
  | _ => none }
def HistPlaysWrongFalsely : Prop := histPlaysRow.holds Try.pinned (OpenSpec.ofChange histPlaysWrong)

/-- 'bellmanlaw07.HistWell': WHATEVER THE INPUT: true; the input reads as it did. -/
def histWellSpec : ChangeSpec := { name := "histWell", fn := fun _ => fun
  | [d] => { results := [.lit (.bool true)], args := [d] }
  | _ => none }
def histWellRow : OpenClaim := { program := "ytgcojbgkenndhaa", sum := "48d76bab872d619e7256b63376b7425626577b9421ad226f415a78068d2c9664", func := "bellman/bellmanlaw07.HistWell", spec := "histWell", unfollowed := true, recurses := true, apart := false }
def HistWellSaid : Prop := histWellRow.holds Try.pinned (OpenSpec.ofChange histWellSpec)

/-- ITS FALSE NEIGHBOUR: 'it returns false'. Refute it at one input. -/
def histWellWrong : ChangeSpec := { name := "histWell", fn := fun _ => fun
  | [d] => { results := [.lit (.bool false)], args := [d] }
  | _ => none }
def HistWellWrongFalsely : Prop := histWellRow.holds Try.pinned (OpenSpec.ofChange histWellWrong)

/-- 'bellmanlaw07.HistRight': WHATEVER THE INPUT: true; the input reads as it did. -/
def histRightSpec : ChangeSpec := { name := "histRight", fn := fun _ => fun
  | [d1, d2, d3, d4] => { results := [.lit (.bool true)], args := [d1, d2, d3, d4] }
  | _ => none }
def histRightRow : OpenClaim := { program := "ytgcojbgkenndhaa", sum := "48d76bab872d619e7256b63376b7425626577b9421ad226f415a78068d2c9664", func := "bellman/bellmanlaw07.HistRight", spec := "histRight", unfollowed := true, recurses := true, apart := false }
def HistRightSaid : Prop := histRightRow.holds Try.pinned (OpenSpec.ofChange histRightSpec)

/-- ITS FALSE NEIGHBOUR: 'it returns false'. Refute it at one input. -/
def histRightWrong : ChangeSpec := { name := "histRight", fn := fun _ => fun
  | [d1, d2, d3, d4] => { results := [.lit (.bool false)], args := [d1, d2, d3, d4] }
  | _ => none }
def HistRightWrongFalsely : Prop := histRightRow.holds Try.pinned (OpenSpec.ofChange histRightWrong)

/-- 'bellmanlaw06.SchedRuns': WHATEVER THE INPUT: true; the input reads as it did. -/
def schedRunsSpec : ChangeSpec := { name := "schedRuns", fn := fun _ => fun
  | [d1, d2] => { results := [.lit (.bool true)], args := [d1, d2] }
  | _ => none }
def schedRunsRow : OpenClaim := { program := "ytgcojbgkenndhaa", sum := "48d76bab872d619e7256b63376b7425626577b9421ad226f415a78068d2c9664", func := "bellman/bellmanlaw06.SchedRuns", spec := "schedRuns", unfollowed := true, recurses := true, apart := false }
def SchedRunsSaid : Prop := schedRunsRow.holds Try.pinned (OpenSpec.ofChange schedRunsSpec)

/-- ITS FALSE NEIGHBOUR: 'it returns false'. Refute it at one input. -/
def schedRunsWrong : ChangeSpec := { name := "schedRuns", fn := fun _ => fun
  | [d1, d2] => { results := [.lit (.bool false)], args := [d1, d2] }
  | _ => none }
def SchedRunsWrongFalsely : Prop := schedRunsRow.holds Try.pinned (OpenSpec.ofChange schedRunsWrong)

/-- 'bellmanlaw06.SchedAll': WHATEVER THE INPUT: true; the input reads as it did. -/
def schedAllSpec : ChangeSpec := { name := "schedAll", fn := fun _ => fun
  | [d1, d2] => { results := [.lit (.bool true)], args := [d1, d2] }
  | _ => none }
def schedAllRow : OpenClaim := { program := "ytgcojbgkenndhaa", sum := "48d76bab872d619e7256b63376b7425626577b9421ad226f415a78068d2c9664", func := "bellman/bellmanlaw06.SchedAll", spec := "schedAll", unfollowed := true, recurses := true, apart := false }
def SchedAllSaid : Prop := schedAllRow.holds Try.pinned (OpenSpec.ofChange schedAllSpec)

/-- ITS FALSE NEIGHBOUR: 'it returns false'. Refute it at one input. -/
def schedAllWrong : ChangeSpec := { name := "schedAll", fn := fun _ => fun
  | [d1, d2] => { results := [.lit (.bool false)], args := [d1, d2] }
  | _ => none }
def SchedAllWrongFalsely : Prop := schedAllRow.holds Try.pinned (OpenSpec.ofChange schedAllWrong)

/-- 'bellmanlaw06.SchedFull': WHATEVER THE INPUT: true; the input reads as it did. -/
def schedFullSpec : ChangeSpec := { name := "schedFull", fn := fun _ => fun
  | [d] => { results := [.lit (.bool true)], args := [d] }
  | _ => none }
def schedFullRow : OpenClaim := { program := "ytgcojbgkenndhaa", sum := "48d76bab872d619e7256b63376b7425626577b9421ad226f415a78068d2c9664", func := "bellman/bellmanlaw06.SchedFull", spec := "schedFull", unfollowed := true, recurses := true, apart := false }
def SchedFullSaid : Prop := schedFullRow.holds Try.pinned (OpenSpec.ofChange schedFullSpec)

/-- ITS FALSE NEIGHBOUR: 'it returns false'. Refute it at one input. -/
def schedFullWrong : ChangeSpec := { name := "schedFull", fn := fun _ => fun
  | [d] => { results := [.lit (.bool false)], args := [d] }
  | _ => none }
def SchedFullWrongFalsely : Prop := schedFullRow.holds Try.pinned (OpenSpec.ofChange schedFullWrong)

/- THE SECOND FORM. 'bulk': how many values and letters a reading holds, each counted each time it is reached (what is shared counts as often as it is met; a slice's spare places count too). A statement '..UptoSaid' is the law's where the arguments, and the package variables that the reading takes, are together of bulk at most 1048576: NARROWER than '..Said'. Prove '..Said' where nothing that the law and all that it calls make is longer than what came in: it says more and counts as full. Else prove '..UptoSaid'. A law counts once. -/
mutual
def uptoBulk {H : Type} : DataW H → Nat
  | .lit (.string bytes) => bytes.length + 1
  | .lit _ => 1
  | .nil => 1
  | .ptr d => uptoBulk d + 1
  | .slice elems spare => uptoBulkAll elems + uptoBulkAll spare + 1
  | .agg parts => uptoBulkAll parts + 1
  | .iface _ d => uptoBulk d + 1
  | .map entries => uptoBulkEntries entries + 1
  | .held _ => 1
def uptoBulkAll {H : Type} : List (DataW H) → Nat
  | [] => 0
  | d :: r => uptoBulk d + uptoBulkAll r
def uptoBulkEntries {H : Type} : List (Lit × DataW H) → Nat
  | [] => 0
  | x :: r => uptoBulkEntry x + uptoBulkEntries r
def uptoBulkEntry {H : Type} : Lit × DataW H → Nat
  | (.string bytes, d) => bytes.length + uptoBulk d + 1
  | (_, d) => uptoBulk d + 1
 end
def uptoSmall : (H : Type) → List (DataW H) → Bool := fun _ ds => decide (uptoBulkAll ds ≤ 1048576)
def OpenSpec.upto (s : _root_.Go.ChangeSpec) : _root_.Go.OpenSpec := { _root_.Go.OpenSpec.ofChange s with cond := some uptoSmall }

/-- 'bellmanlaw09.EpochSafe', WHERE WHAT IT READS IS OF BULK AT MOST 1048576: true; the input reads as it did. -/
def epochSafeUptoRow : OpenClaim := { program := "ytgcojbgkenndhaa", sum := "48d76bab872d619e7256b63376b7425626577b9421ad226f415a78068d2c9664", func := "bellman/bellmanlaw09.EpochSafe", spec := "epochSafe", unfollowed := true, recurses := true, apart := false, narrowed := true }
def EpochSafeUptoSaid : Prop := epochSafeUptoRow.holds Try.pinned (OpenSpec.upto epochSafeSpec)

/-- 'bellmanlaw09.EpochPlays', WHERE WHAT IT READS IS OF BULK AT MOST 1048576: true; the input reads as it did. -/
def epochPlaysUptoRow : OpenClaim := { program := "ytgcojbgkenndhaa", sum := "48d76bab872d619e7256b63376b7425626577b9421ad226f415a78068d2c9664", func := "bellman/bellmanlaw09.EpochPlays", spec := "epochPlays", unfollowed := true, recurses := true, apart := false, narrowed := true }
def EpochPlaysUptoSaid : Prop := epochPlaysUptoRow.holds Try.pinned (OpenSpec.upto epochPlaysSpec)

/-- 'bellmanlaw09.EpochNone', WHERE WHAT IT READS IS OF BULK AT MOST 1048576: true; the input reads as it did. -/
def epochNoneUptoRow : OpenClaim := { program := "ytgcojbgkenndhaa", sum := "48d76bab872d619e7256b63376b7425626577b9421ad226f415a78068d2c9664", func := "bellman/bellmanlaw09.EpochNone", spec := "epochNone", unfollowed := true, recurses := true, apart := false, narrowed := true }
def EpochNoneUptoSaid : Prop := epochNoneUptoRow.holds Try.pinned (OpenSpec.upto epochNoneSpec)

/-- 'bellmanlaw07.HistPlays', WHERE WHAT IT READS IS OF BULK AT MOST 1048576: true; the input reads as it did. -/
def histPlaysUptoRow : OpenClaim := { program := "ytgcojbgkenndhaa", sum := "48d76bab872d619e7256b63376b7425626577b9421ad226f415a78068d2c9664", func := "bellman/bellmanlaw07.HistPlays", spec := "histPlays", unfollowed := true, recurses := true, apart := false, narrowed := true }
def HistPlaysUptoSaid : Prop := histPlaysUptoRow.holds Try.pinned (OpenSpec.upto histPlaysSpec)

/-- 'bellmanlaw07.HistWell', WHERE WHAT IT READS IS OF BULK AT MOST 1048576: true; the input reads as it did. -/
def histWellUptoRow : OpenClaim := { program := "ytgcojbgkenndhaa", sum := "48d76bab872d619e7256b63376b7425626577b9421ad226f415a78068d2c9664", func := "bellman/bellmanlaw07.HistWell", spec := "histWell", unfollowed := true, recurses := true, apart := false, narrowed := true }
def HistWellUptoSaid : Prop := histWellUptoRow.holds Try.pinned (OpenSpec.upto histWellSpec)

/-- 'bellmanlaw07.HistRight', WHERE WHAT IT READS IS OF BULK AT MOST 1048576: true; the input reads as it did. -/
def histRightUptoRow : OpenClaim := { program := "ytgcojbgkenndhaa", sum := "48d76bab872d619e7256b63376b7425626577b9421ad226f415a78068d2c9664", func := "bellman/bellmanlaw07.HistRight", spec := "histRight", unfollowed := true, recurses := true, apart := false, narrowed := true }
def HistRightUptoSaid : Prop := histRightUptoRow.holds Try.pinned (OpenSpec.upto histRightSpec)

/-- 'bellmanlaw06.SchedRuns', WHERE WHAT IT READS IS OF BULK AT MOST 1048576: true; the input reads as it did. -/
def schedRunsUptoRow : OpenClaim := { program := "ytgcojbgkenndhaa", sum := "48d76bab872d619e7256b63376b7425626577b9421ad226f415a78068d2c9664", func := "bellman/bellmanlaw06.SchedRuns", spec := "schedRuns", unfollowed := true, recurses := true, apart := false, narrowed := true }
def SchedRunsUptoSaid : Prop := schedRunsUptoRow.holds Try.pinned (OpenSpec.upto schedRunsSpec)

/-- 'bellmanlaw06.SchedAll', WHERE WHAT IT READS IS OF BULK AT MOST 1048576: true; the input reads as it did. -/
def schedAllUptoRow : OpenClaim := { program := "ytgcojbgkenndhaa", sum := "48d76bab872d619e7256b63376b7425626577b9421ad226f415a78068d2c9664", func := "bellman/bellmanlaw06.SchedAll", spec := "schedAll", unfollowed := true, recurses := true, apart := false, narrowed := true }
def SchedAllUptoSaid : Prop := schedAllUptoRow.holds Try.pinned (OpenSpec.upto schedAllSpec)

/-- 'bellmanlaw06.SchedFull', WHERE WHAT IT READS IS OF BULK AT MOST 1048576: true; the input reads as it did. -/
def schedFullUptoRow : OpenClaim := { program := "ytgcojbgkenndhaa", sum := "48d76bab872d619e7256b63376b7425626577b9421ad226f415a78068d2c9664", func := "bellman/bellmanlaw06.SchedFull", spec := "schedFull", unfollowed := true, recurses := true, apart := false, narrowed := true }
def SchedFullUptoSaid : Prop := schedFullUptoRow.holds Try.pinned (OpenSpec.upto schedFullSpec)

end Rows
end Go.Proofs.Ytgcojbgkenndhaa
