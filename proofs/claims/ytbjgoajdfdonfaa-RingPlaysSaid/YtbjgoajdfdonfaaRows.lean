/-
  No cell of these rows narrows 'for every input' (looked for: loops, veiled, ifaces, maps, wideKeys, modest, calm, conditions, laid).
  DERIVED. THE GIVEN ROWS OF THIS SEAT. 12 by the template 'for every input the law returns true; each argument reads behind the call as it read before'; 0 by the template 'total and deterministic' (their statements: YtbjgoajdfdonfaaTotals.lean).
  GIVEN WITH THE SEED: the statements are not yours to turn. If you find one false, say at which input.
  Laid BY PROGRAM, IN A SANDBOX (cutbox-rows.mjs): the forced cells as the released guide's own fill.sh prints them over the translation 028449691d7226f7… (all of the seat's roots in one cut). By AI agents, Wed Nov 11 2026. No macro, syntax, notation, axiom, sorry.
-/
import Derived.Test.YtbjgoajdfdonfaaChecked
import GoSem.Claim
import GoSem.ClaimJoined
import GoSem.ClaimMapViews
import Derived.JoinedTies
import Derived.KernelRfl
namespace Go.Proofs.Ytbjgoajdfdonfaa
/- THE CELL 'sum', in the pinned program and in every row, IS THE sha256 OF THE DUMP (.gsa) THAT YtbjgoajdfdonfaaProg.lean LOADS. Nothing in Lean hashes anything: it is a label: what it is worth is what the hold of that sum in a sandbox is worth. -/
noncomputable def Try.pinned : Pinned := { name := "ytbjgoajdfdonfaa", sum := "028449691d7226f7fdcc35a24be014b96bae991732235fcbb32184ef422472ae", checked := Try.checked }
namespace Rows
def none {H : Type} : Left H := { results := [], args := [] }

/-- 'bellmanlaw04.CellPlays': WHATEVER THE INPUT: true; the input reads as it did. -/
def cellPlaysSpec : ChangeSpec := { name := "cellPlays", fn := fun _ => fun
  | [d1, d2] => { results := [.lit (.bool true)], args := [d1, d2] }
  | _ => none }
def cellPlaysRow : OpenClaim := { program := "ytbjgoajdfdonfaa", sum := "028449691d7226f7fdcc35a24be014b96bae991732235fcbb32184ef422472ae", func := "bellman/bellmanlaw04.CellPlays", spec := "cellPlays", unfollowed := true, recurses := true, apart := false }
def CellPlaysSaid : Prop := cellPlaysRow.holds Try.pinned (OpenSpec.ofChange cellPlaysSpec)

/-- ITS FALSE NEIGHBOUR: 'it returns false'. Refute it at one input. -/
def cellPlaysWrong : ChangeSpec := { name := "cellPlays", fn := fun _ => fun
  | [d1, d2] => { results := [.lit (.bool false)], args := [d1, d2] }
  | _ => none }
def CellPlaysWrongFalsely : Prop := cellPlaysRow.holds Try.pinned (OpenSpec.ofChange cellPlaysWrong)

/-- 'bellmanlaw04.CellNone': WHATEVER THE INPUT: true; the input reads as it did. -/
def cellNoneSpec : ChangeSpec := { name := "cellNone", fn := fun _ => fun
  | [d1, d2] => { results := [.lit (.bool true)], args := [d1, d2] }
  | _ => none }
def cellNoneRow : OpenClaim := { program := "ytbjgoajdfdonfaa", sum := "028449691d7226f7fdcc35a24be014b96bae991732235fcbb32184ef422472ae", func := "bellman/bellmanlaw04.CellNone", spec := "cellNone", unfollowed := true, recurses := true, apart := false }
def CellNoneSaid : Prop := cellNoneRow.holds Try.pinned (OpenSpec.ofChange cellNoneSpec)

/-- ITS FALSE NEIGHBOUR: 'it returns false'. Refute it at one input. -/
def cellNoneWrong : ChangeSpec := { name := "cellNone", fn := fun _ => fun
  | [d1, d2] => { results := [.lit (.bool false)], args := [d1, d2] }
  | _ => none }
def CellNoneWrongFalsely : Prop := cellNoneRow.holds Try.pinned (OpenSpec.ofChange cellNoneWrong)

/-- 'bellmanlaw05.LockOne': WHATEVER THE INPUT: true; the input reads as it did. -/
def lockOneSpec : ChangeSpec := { name := "lockOne", fn := fun _ => fun
  | [d] => { results := [.lit (.bool true)], args := [d] }
  | _ => none }
def lockOneRow : OpenClaim := { program := "ytbjgoajdfdonfaa", sum := "028449691d7226f7fdcc35a24be014b96bae991732235fcbb32184ef422472ae", func := "bellman/bellmanlaw05.LockOne", spec := "lockOne", unfollowed := true, recurses := true, apart := false }
def LockOneSaid : Prop := lockOneRow.holds Try.pinned (OpenSpec.ofChange lockOneSpec)

/-- ITS FALSE NEIGHBOUR: 'it returns false'. Refute it at one input. -/
def lockOneWrong : ChangeSpec := { name := "lockOne", fn := fun _ => fun
  | [d] => { results := [.lit (.bool false)], args := [d] }
  | _ => none }
def LockOneWrongFalsely : Prop := lockOneRow.holds Try.pinned (OpenSpec.ofChange lockOneWrong)

/-- 'bellmanlaw10.PoolFresh': WHATEVER THE INPUT: true; the input reads as it did. -/
def poolFreshSpec : ChangeSpec := { name := "poolFresh", fn := fun _ => fun
  | [d1, d2] => { results := [.lit (.bool true)], args := [d1, d2] }
  | _ => none }
def poolFreshRow : OpenClaim := { program := "ytbjgoajdfdonfaa", sum := "028449691d7226f7fdcc35a24be014b96bae991732235fcbb32184ef422472ae", func := "bellman/bellmanlaw10.PoolFresh", spec := "poolFresh", apart := false }
def PoolFreshSaid : Prop := poolFreshRow.holds Try.pinned (OpenSpec.ofChange poolFreshSpec)

/-- ITS FALSE NEIGHBOUR: 'it returns false'. Refute it at one input. -/
def poolFreshWrong : ChangeSpec := { name := "poolFresh", fn := fun _ => fun
  | [d1, d2] => { results := [.lit (.bool false)], args := [d1, d2] }
  | _ => none }
def PoolFreshWrongFalsely : Prop := poolFreshRow.holds Try.pinned (OpenSpec.ofChange poolFreshWrong)

/-- 'bellmanlaw11.RingRounds': WHATEVER THE INPUT: true; the input reads as it did. -/
def ringRoundsSpec : ChangeSpec := { name := "ringRounds", fn := fun _ => fun
  | [d1, d2] => { results := [.lit (.bool true)], args := [d1, d2] }
  | _ => none }
def ringRoundsRow : OpenClaim := { program := "ytbjgoajdfdonfaa", sum := "028449691d7226f7fdcc35a24be014b96bae991732235fcbb32184ef422472ae", func := "bellman/bellmanlaw11.RingRounds", spec := "ringRounds", apart := false }
def RingRoundsSaid : Prop := ringRoundsRow.holds Try.pinned (OpenSpec.ofChange ringRoundsSpec)

/-- ITS FALSE NEIGHBOUR: 'it returns false'. Refute it at one input. -/
def ringRoundsWrong : ChangeSpec := { name := "ringRounds", fn := fun _ => fun
  | [d1, d2] => { results := [.lit (.bool false)], args := [d1, d2] }
  | _ => none }
def RingRoundsWrongFalsely : Prop := ringRoundsRow.holds Try.pinned (OpenSpec.ofChange ringRoundsWrong)

/-- 'bellmanlaw10.PoolPlays': WHATEVER THE INPUT: true; the input reads as it did. -/
def poolPlaysSpec : ChangeSpec := { name := "poolPlays", fn := fun _ => fun
  | [d1, d2] => { results := [.lit (.bool true)], args := [d1, d2] }
  | _ => none }
def poolPlaysRow : OpenClaim := { program := "ytbjgoajdfdonfaa", sum := "028449691d7226f7fdcc35a24be014b96bae991732235fcbb32184ef422472ae", func := "bellman/bellmanlaw10.PoolPlays", spec := "poolPlays", apart := false }
def PoolPlaysSaid : Prop := poolPlaysRow.holds Try.pinned (OpenSpec.ofChange poolPlaysSpec)

/-- ITS FALSE NEIGHBOUR: 'it returns false'. Refute it at one input. -/
def poolPlaysWrong : ChangeSpec := { name := "poolPlays", fn := fun _ => fun
  | [d1, d2] => { results := [.lit (.bool false)], args := [d1, d2] }
  | _ => none }
def PoolPlaysWrongFalsely : Prop := poolPlaysRow.holds Try.pinned (OpenSpec.ofChange poolPlaysWrong)

/-- 'bellmanlaw10.PoolNone': WHATEVER THE INPUT: true; the input reads as it did. -/
def poolNoneSpec : ChangeSpec := { name := "poolNone", fn := fun _ => fun
  | [d1, d2] => { results := [.lit (.bool true)], args := [d1, d2] }
  | _ => none }
def poolNoneRow : OpenClaim := { program := "ytbjgoajdfdonfaa", sum := "028449691d7226f7fdcc35a24be014b96bae991732235fcbb32184ef422472ae", func := "bellman/bellmanlaw10.PoolNone", spec := "poolNone", apart := false }
def PoolNoneSaid : Prop := poolNoneRow.holds Try.pinned (OpenSpec.ofChange poolNoneSpec)

/-- ITS FALSE NEIGHBOUR: 'it returns false'. Refute it at one input. -/
def poolNoneWrong : ChangeSpec := { name := "poolNone", fn := fun _ => fun
  | [d1, d2] => { results := [.lit (.bool false)], args := [d1, d2] }
  | _ => none }
def PoolNoneWrongFalsely : Prop := poolNoneRow.holds Try.pinned (OpenSpec.ofChange poolNoneWrong)

/-- 'bellmanlaw05.LockNone': WHATEVER THE INPUT: true; the input reads as it did. -/
def lockNoneSpec : ChangeSpec := { name := "lockNone", fn := fun _ => fun
  | [d1, d2] => { results := [.lit (.bool true)], args := [d1, d2] }
  | _ => none }
def lockNoneRow : OpenClaim := { program := "ytbjgoajdfdonfaa", sum := "028449691d7226f7fdcc35a24be014b96bae991732235fcbb32184ef422472ae", func := "bellman/bellmanlaw05.LockNone", spec := "lockNone", unfollowed := true, recurses := true, apart := false }
def LockNoneSaid : Prop := lockNoneRow.holds Try.pinned (OpenSpec.ofChange lockNoneSpec)

/-- ITS FALSE NEIGHBOUR: 'it returns false'. Refute it at one input. -/
def lockNoneWrong : ChangeSpec := { name := "lockNone", fn := fun _ => fun
  | [d1, d2] => { results := [.lit (.bool false)], args := [d1, d2] }
  | _ => none }
def LockNoneWrongFalsely : Prop := lockNoneRow.holds Try.pinned (OpenSpec.ofChange lockNoneWrong)

/-- 'bellmanlaw11.RingOrder': WHATEVER THE INPUT: true; the input reads as it did. -/
def ringOrderSpec : ChangeSpec := { name := "ringOrder", fn := fun _ => fun
  | [d1, d2] => { results := [.lit (.bool true)], args := [d1, d2] }
  | _ => none }
def ringOrderRow : OpenClaim := { program := "ytbjgoajdfdonfaa", sum := "028449691d7226f7fdcc35a24be014b96bae991732235fcbb32184ef422472ae", func := "bellman/bellmanlaw11.RingOrder", spec := "ringOrder", unfollowed := true, recurses := true, apart := false }
def RingOrderSaid : Prop := ringOrderRow.holds Try.pinned (OpenSpec.ofChange ringOrderSpec)

/-- ITS FALSE NEIGHBOUR: 'it returns false'. Refute it at one input. -/
def ringOrderWrong : ChangeSpec := { name := "ringOrder", fn := fun _ => fun
  | [d1, d2] => { results := [.lit (.bool false)], args := [d1, d2] }
  | _ => none }
def RingOrderWrongFalsely : Prop := ringOrderRow.holds Try.pinned (OpenSpec.ofChange ringOrderWrong)

/-- 'bellmanlaw05.LockPlays': WHATEVER THE INPUT: true; the input reads as it did. -/
def lockPlaysSpec : ChangeSpec := { name := "lockPlays", fn := fun _ => fun
  | [d1, d2] => { results := [.lit (.bool true)], args := [d1, d2] }
  | _ => none }
def lockPlaysRow : OpenClaim := { program := "ytbjgoajdfdonfaa", sum := "028449691d7226f7fdcc35a24be014b96bae991732235fcbb32184ef422472ae", func := "bellman/bellmanlaw05.LockPlays", spec := "lockPlays", unfollowed := true, recurses := true, apart := false }
def LockPlaysSaid : Prop := lockPlaysRow.holds Try.pinned (OpenSpec.ofChange lockPlaysSpec)

/-- ITS FALSE NEIGHBOUR: 'it returns false'. Refute it at one input. -/
def lockPlaysWrong : ChangeSpec := { name := "lockPlays", fn := fun _ => fun
  | [d1, d2] => { results := [.lit (.bool false)], args := [d1, d2] }
  | _ => none }
def LockPlaysWrongFalsely : Prop := lockPlaysRow.holds Try.pinned (OpenSpec.ofChange lockPlaysWrong)

/-- 'bellmanlaw11.RingPlays': WHATEVER THE INPUT: true; the input reads as it did. -/
def ringPlaysSpec : ChangeSpec := { name := "ringPlays", fn := fun _ => fun
  | [d1, d2, d3] => { results := [.lit (.bool true)], args := [d1, d2, d3] }
  | _ => none }
def ringPlaysRow : OpenClaim := { program := "ytbjgoajdfdonfaa", sum := "028449691d7226f7fdcc35a24be014b96bae991732235fcbb32184ef422472ae", func := "bellman/bellmanlaw11.RingPlays", spec := "ringPlays", unfollowed := true, recurses := true, apart := false }
def RingPlaysSaid : Prop := ringPlaysRow.holds Try.pinned (OpenSpec.ofChange ringPlaysSpec)

/-- ITS FALSE NEIGHBOUR: 'it returns false'. Refute it at one input. -/
def ringPlaysWrong : ChangeSpec := { name := "ringPlays", fn := fun _ => fun
  | [d1, d2, d3] => { results := [.lit (.bool false)], args := [d1, d2, d3] }
  | _ => none }
def RingPlaysWrongFalsely : Prop := ringPlaysRow.holds Try.pinned (OpenSpec.ofChange ringPlaysWrong)

/-- 'bellmanlaw11.RingNone': WHATEVER THE INPUT: true; the input reads as it did. -/
def ringNoneSpec : ChangeSpec := { name := "ringNone", fn := fun _ => fun
  | [d] => { results := [.lit (.bool true)], args := [d] }
  | _ => none }
def ringNoneRow : OpenClaim := { program := "ytbjgoajdfdonfaa", sum := "028449691d7226f7fdcc35a24be014b96bae991732235fcbb32184ef422472ae", func := "bellman/bellmanlaw11.RingNone", spec := "ringNone", unfollowed := true, recurses := true, apart := false }
def RingNoneSaid : Prop := ringNoneRow.holds Try.pinned (OpenSpec.ofChange ringNoneSpec)

/-- ITS FALSE NEIGHBOUR: 'it returns false'. Refute it at one input. -/
def ringNoneWrong : ChangeSpec := { name := "ringNone", fn := fun _ => fun
  | [d] => { results := [.lit (.bool false)], args := [d] }
  | _ => none }
def RingNoneWrongFalsely : Prop := ringNoneRow.holds Try.pinned (OpenSpec.ofChange ringNoneWrong)

/- THE SECOND FORM. 'bulk': how many values and letters a reading holds, each counted each time it is reached (what is shared counts as often as it is met; a slice's spare places count too). A statement '..UptoSaid' is the law's where the arguments, and the package variables that the reading takes, are together of bulk at most 1048576: NARROWER than '..Said'. Prove '..Said' where nothing that the law and all that it calls make is longer than what came in: it says more and counts as full. Else prove '..UptoSaid'. A law counts once. -/
mutual
def uptoBulk {H : Type} : DataW H → Nat
  | .lit (.string bytes) => bytes.length + 1
  | .lit _ => 1
  | .nil => 1
  | .ptr d => uptoBulk d + 1
  | .slice elems spare => uptoBulkAll elems + uptoBulkAll spare + 1
  | .agg parts => uptoBulkAll parts + 1
  | .iface _ d => uptoBulk d + 1
  | .map entries => uptoBulkEntries entries + 1
  | .held _ => 1
def uptoBulkAll {H : Type} : List (DataW H) → Nat
  | [] => 0
  | d :: r => uptoBulk d + uptoBulkAll r
def uptoBulkEntries {H : Type} : List (Lit × DataW H) → Nat
  | [] => 0
  | x :: r => uptoBulkEntry x + uptoBulkEntries r
def uptoBulkEntry {H : Type} : Lit × DataW H → Nat
  | (.string bytes, d) => bytes.length + uptoBulk d + 1
  | (_, d) => uptoBulk d + 1
 end
def uptoSmall : (H : Type) → List (DataW H) → Bool := fun _ ds => decide (uptoBulkAll ds ≤ 1048576)
def OpenSpec.upto (s : _root_.Go.ChangeSpec) : _root_.Go.OpenSpec := { _root_.Go.OpenSpec.ofChange s with cond := some uptoSmall }

/-- 'bellmanlaw04.CellPlays', WHERE WHAT IT READS IS OF BULK AT MOST 1048576: true; the input reads as it did. -/
def cellPlaysUptoRow : OpenClaim := { program := "ytbjgoajdfdonfaa", sum := "028449691d7226f7fdcc35a24be014b96bae991732235fcbb32184ef422472ae", func := "bellman/bellmanlaw04.CellPlays", spec := "cellPlays", unfollowed := true, recurses := true, apart := false, narrowed := true }
def CellPlaysUptoSaid : Prop := cellPlaysUptoRow.holds Try.pinned (OpenSpec.upto cellPlaysSpec)

/-- 'bellmanlaw04.CellNone', WHERE WHAT IT READS IS OF BULK AT MOST 1048576: true; the input reads as it did. -/
def cellNoneUptoRow : OpenClaim := { program := "ytbjgoajdfdonfaa", sum := "028449691d7226f7fdcc35a24be014b96bae991732235fcbb32184ef422472ae", func := "bellman/bellmanlaw04.CellNone", spec := "cellNone", unfollowed := true, recurses := true, apart := false, narrowed := true }
def CellNoneUptoSaid : Prop := cellNoneUptoRow.holds Try.pinned (OpenSpec.upto cellNoneSpec)

/-- 'bellmanlaw05.LockOne', WHERE WHAT IT READS IS OF BULK AT MOST 1048576: true; the input reads as it did. -/
def lockOneUptoRow : OpenClaim := { program := "ytbjgoajdfdonfaa", sum := "028449691d7226f7fdcc35a24be014b96bae991732235fcbb32184ef422472ae", func := "bellman/bellmanlaw05.LockOne", spec := "lockOne", unfollowed := true, recurses := true, apart := false, narrowed := true }
def LockOneUptoSaid : Prop := lockOneUptoRow.holds Try.pinned (OpenSpec.upto lockOneSpec)

/-- 'bellmanlaw10.PoolFresh', WHERE WHAT IT READS IS OF BULK AT MOST 1048576: true; the input reads as it did. -/
def poolFreshUptoRow : OpenClaim := { program := "ytbjgoajdfdonfaa", sum := "028449691d7226f7fdcc35a24be014b96bae991732235fcbb32184ef422472ae", func := "bellman/bellmanlaw10.PoolFresh", spec := "poolFresh", apart := false, narrowed := true }
def PoolFreshUptoSaid : Prop := poolFreshUptoRow.holds Try.pinned (OpenSpec.upto poolFreshSpec)

/-- 'bellmanlaw11.RingRounds', WHERE WHAT IT READS IS OF BULK AT MOST 1048576: true; the input reads as it did. -/
def ringRoundsUptoRow : OpenClaim := { program := "ytbjgoajdfdonfaa", sum := "028449691d7226f7fdcc35a24be014b96bae991732235fcbb32184ef422472ae", func := "bellman/bellmanlaw11.RingRounds", spec := "ringRounds", apart := false, narrowed := true }
def RingRoundsUptoSaid : Prop := ringRoundsUptoRow.holds Try.pinned (OpenSpec.upto ringRoundsSpec)

/-- 'bellmanlaw10.PoolPlays', WHERE WHAT IT READS IS OF BULK AT MOST 1048576: true; the input reads as it did. -/
def poolPlaysUptoRow : OpenClaim := { program := "ytbjgoajdfdonfaa", sum := "028449691d7226f7fdcc35a24be014b96bae991732235fcbb32184ef422472ae", func := "bellman/bellmanlaw10.PoolPlays", spec := "poolPlays", apart := false, narrowed := true }
def PoolPlaysUptoSaid : Prop := poolPlaysUptoRow.holds Try.pinned (OpenSpec.upto poolPlaysSpec)

/-- 'bellmanlaw10.PoolNone', WHERE WHAT IT READS IS OF BULK AT MOST 1048576: true; the input reads as it did. -/
def poolNoneUptoRow : OpenClaim := { program := "ytbjgoajdfdonfaa", sum := "028449691d7226f7fdcc35a24be014b96bae991732235fcbb32184ef422472ae", func := "bellman/bellmanlaw10.PoolNone", spec := "poolNone", apart := false, narrowed := true }
def PoolNoneUptoSaid : Prop := poolNoneUptoRow.holds Try.pinned (OpenSpec.upto poolNoneSpec)

/-- 'bellmanlaw05.LockNone', WHERE WHAT IT READS IS OF BULK AT MOST 1048576: true; the input reads as it did. -/
def lockNoneUptoRow : OpenClaim := { program := "ytbjgoajdfdonfaa", sum := "028449691d7226f7fdcc35a24be014b96bae991732235fcbb32184ef422472ae", func := "bellman/bellmanlaw05.LockNone", spec := "lockNone", unfollowed := true, recurses := true, apart := false, narrowed := true }
def LockNoneUptoSaid : Prop := lockNoneUptoRow.holds Try.pinned (OpenSpec.upto lockNoneSpec)

/-- 'bellmanlaw11.RingOrder', WHERE WHAT IT READS IS OF BULK AT MOST 1048576: true; the input reads as it did. -/
def ringOrderUptoRow : OpenClaim := { program := "ytbjgoajdfdonfaa", sum := "028449691d7226f7fdcc35a24be014b96bae991732235fcbb32184ef422472ae", func := "bellman/bellmanlaw11.RingOrder", spec := "ringOrder", unfollowed := true, recurses := true, apart := false, narrowed := true }
def RingOrderUptoSaid : Prop := ringOrderUptoRow.holds Try.pinned (OpenSpec.upto ringOrderSpec)

/-- 'bellmanlaw05.LockPlays', WHERE WHAT IT READS IS OF BULK AT MOST 1048576: true; the input reads as it did. -/
def lockPlaysUptoRow : OpenClaim := { program := "ytbjgoajdfdonfaa", sum := "028449691d7226f7fdcc35a24be014b96bae991732235fcbb32184ef422472ae", func := "bellman/bellmanlaw05.LockPlays", spec := "lockPlays", unfollowed := true, recurses := true, apart := false, narrowed := true }
def LockPlaysUptoSaid : Prop := lockPlaysUptoRow.holds Try.pinned (OpenSpec.upto lockPlaysSpec)

/-- 'bellmanlaw11.RingPlays', WHERE WHAT IT READS IS OF BULK AT MOST 1048576: true; the input reads as it did. -/
def ringPlaysUptoRow : OpenClaim := { program := "ytbjgoajdfdonfaa", sum := "028449691d7226f7fdcc35a24be014b96bae991732235fcbb32184ef422472ae", func := "bellman/bellmanlaw11.RingPlays", spec := "ringPlays", unfollowed := true, recurses := true, apart := false, narrowed := true }
def RingPlaysUptoSaid : Prop := ringPlaysUptoRow.holds Try.pinned (OpenSpec.upto ringPlaysSpec)

/-- 'bellmanlaw11.RingNone', WHERE WHAT IT READS IS OF BULK AT MOST 1048576: true; the input reads as it did. -/
def ringNoneUptoRow : OpenClaim := { program := "ytbjgoajdfdonfaa", sum := "028449691d7226f7fdcc35a24be014b96bae991732235fcbb32184ef422472ae", func := "bellman/bellmanlaw11.RingNone", spec := "ringNone", unfollowed := true, recurses := true, apart := false, narrowed := true }
def RingNoneUptoSaid : Prop := ringNoneUptoRow.holds Try.pinned (OpenSpec.upto ringNoneSpec)

end Rows
end Go.Proofs.Ytbjgoajdfdonfaa
