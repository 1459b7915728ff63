/-
  No cell of these rows narrows 'for every input' (looked for: loops, veiled, ifaces, maps, wideKeys, modest, calm, conditions, laid).
  DERIVED. THE GIVEN ROWS OF THIS SEAT. 2 by the template 'for every input the law returns true; each argument reads behind the call as it read before'; 0 by the template 'total and deterministic' (their statements: YtdbgeahmhfocaaaGreatTotals.lean).
  GIVEN WITH THE SEED: the statements are not yours to turn. If you find one false, say at which input.
  Laid BY PROGRAM, IN A SANDBOX (cutbox-rows.mjs): the forced cells as the released guide's own fill.sh prints them over the translation 9ac0432a0826f53a… (all of the seat's roots in one cut). By AI agents, Wed Nov 11 2026. No macro, syntax, notation, axiom, sorry.
-/
import Derived.Test.YtdbgeahmhfocaaaGreatChecked
import GoSem.Claim
import GoSem.ClaimJoined
import GoSem.ClaimMapViews
import Derived.JoinedTies
import Derived.KernelRfl
namespace Go.Proofs.YtdbgeahmhfocaaaGreat
/- THE CELL 'sum', in the pinned program and in every row, IS THE sha256 OF THE DUMP (.gsa) THAT YtdbgeahmhfocaaaGreatProg.lean LOADS. Nothing in Lean hashes anything: it is a label: what it is worth is what the hold of that sum in a sandbox is worth. -/
noncomputable def Tryz.pinned : Pinned := { name := "ytdbgeahmhfocaaagreat", sum := "9ac0432a0826f53a18029c0ab78f745a629e6f693a859f0d89b0e19425178c07", checked := Tryz.checked }
namespace Rows
def none {H : Type} : Left H := { results := [], args := [] }

/-- 'bellmanlaw22.CorePolls': WHATEVER THE INPUT: true; the input reads as it did. -/
def corePollsSpec : ChangeSpec := { name := "corePolls", fn := fun _ => fun
  | [d1, d2, d3, d4, d5, d6] => { results := [.lit (.bool true)], args := [d1, d2, d3, d4, d5, d6] }
  | _ => none }
def corePollsRow : OpenClaim := { program := "ytdbgeahmhfocaaagreat", sum := "9ac0432a0826f53a18029c0ab78f745a629e6f693a859f0d89b0e19425178c07", func := "bellman/bellmanlaw22.CorePolls", spec := "corePolls", unfollowed := true, recurses := true, apart := false }
def CorePollsSaid : Prop := corePollsRow.holds Tryz.pinned (OpenSpec.ofChange corePollsSpec)

/-- ITS FALSE NEIGHBOUR: 'it returns false'. Refute it at one input. -/
def corePollsWrong : ChangeSpec := { name := "corePolls", fn := fun _ => fun
  | [d1, d2, d3, d4, d5, d6] => { results := [.lit (.bool false)], args := [d1, d2, d3, d4, d5, d6] }
  | _ => none }
def CorePollsWrongFalsely : Prop := corePollsRow.holds Tryz.pinned (OpenSpec.ofChange corePollsWrong)

/-- 'bellmanlaw22.CoreNone': WHATEVER THE INPUT: true; the input reads as it did. -/
def coreNoneSpec : ChangeSpec := { name := "coreNone", fn := fun _ => fun
  | [d1, d2] => { results := [.lit (.bool true)], args := [d1, d2] }
  | _ => none }
def coreNoneRow : OpenClaim := { program := "ytdbgeahmhfocaaagreat", sum := "9ac0432a0826f53a18029c0ab78f745a629e6f693a859f0d89b0e19425178c07", func := "bellman/bellmanlaw22.CoreNone", spec := "coreNone", unfollowed := true, recurses := true, apart := false }
def CoreNoneSaid : Prop := coreNoneRow.holds Tryz.pinned (OpenSpec.ofChange coreNoneSpec)

/-- ITS FALSE NEIGHBOUR: 'it returns false'. Refute it at one input. -/
def coreNoneWrong : ChangeSpec := { name := "coreNone", fn := fun _ => fun
  | [d1, d2] => { results := [.lit (.bool false)], args := [d1, d2] }
  | _ => none }
def CoreNoneWrongFalsely : Prop := coreNoneRow.holds Tryz.pinned (OpenSpec.ofChange coreNoneWrong)

/- THE SECOND FORM. 'bulk': how many values and letters a reading holds, each counted each time it is reached (what is shared counts as often as it is met; a slice's spare places count too). A statement '..UptoSaid' is the law's where the arguments, and the package variables that the reading takes, are together of bulk at most 1048576: NARROWER than '..Said'. Prove '..Said' where nothing that the law and all that it calls make is longer than what came in: it says more and counts as full. Else prove '..UptoSaid'. A law counts once. -/
mutual
def uptoBulk {H : Type} : DataW H → Nat
  | .lit (.string bytes) => bytes.length + 1
  | .lit _ => 1
  | .nil => 1
  | .ptr d => uptoBulk d + 1
  | .slice elems spare => uptoBulkAll elems + uptoBulkAll spare + 1
  | .agg parts => uptoBulkAll parts + 1
  | .iface _ d => uptoBulk d + 1
  | .map entries => uptoBulkEntries entries + 1
  | .held _ => 1
def uptoBulkAll {H : Type} : List (DataW H) → Nat
  | [] => 0
  | d :: r => uptoBulk d + uptoBulkAll r
def uptoBulkEntries {H : Type} : List (Lit × DataW H) → Nat
  | [] => 0
  | x :: r => uptoBulkEntry x + uptoBulkEntries r
def uptoBulkEntry {H : Type} : Lit × DataW H → Nat
  | (.string bytes, d) => bytes.length + uptoBulk d + 1
  | (_, d) => uptoBulk d + 1
 end
def uptoSmall : (H : Type) → List (DataW H) → Bool := fun _ ds => decide (uptoBulkAll ds ≤ 1048576)
def OpenSpec.upto (s : _root_.Go.ChangeSpec) : _root_.Go.OpenSpec := { _root_.Go.OpenSpec.ofChange s with cond := some uptoSmall }

/-- 'bellmanlaw22.CorePolls', WHERE WHAT IT READS IS OF BULK AT MOST 1048576: true; the input reads as it did. -/
def corePollsUptoRow : OpenClaim := { program := "ytdbgeahmhfocaaagreat", sum := "9ac0432a0826f53a18029c0ab78f745a629e6f693a859f0d89b0e19425178c07", func := "bellman/bellmanlaw22.CorePolls", spec := "corePolls", unfollowed := true, recurses := true, apart := false, narrowed := true }
def CorePollsUptoSaid : Prop := corePollsUptoRow.holds Tryz.pinned (OpenSpec.upto corePollsSpec)

/-- 'bellmanlaw22.CoreNone', WHERE WHAT IT READS IS OF BULK AT MOST 1048576: true; the input reads as it did. -/
def coreNoneUptoRow : OpenClaim := { program := "ytdbgeahmhfocaaagreat", sum := "9ac0432a0826f53a18029c0ab78f745a629e6f693a859f0d89b0e19425178c07", func := "bellman/bellmanlaw22.CoreNone", spec := "coreNone", unfollowed := true, recurses := true, apart := false, narrowed := true }
def CoreNoneUptoSaid : Prop := coreNoneUptoRow.holds Tryz.pinned (OpenSpec.upto coreNoneSpec)

end Rows
end Go.Proofs.YtdbgeahmhfocaaaGreat
