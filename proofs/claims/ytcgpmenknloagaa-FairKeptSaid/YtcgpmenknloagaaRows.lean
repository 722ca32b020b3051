/-
  No cell of these rows narrows 'for every input' (looked for: loops, veiled, ifaces, maps, wideKeys, modest, calm, conditions, laid).
  DERIVED. THE GIVEN ROWS OF THIS SEAT. 10 by the template 'for every input the law returns true; each argument reads behind the call as it read before'; 0 by the template 'total and deterministic' (their statements: YtcgpmenknloagaaTotals.lean).
  GIVEN WITH THE SEED: the statements are not yours to turn. If you find one false, say at which input.
  Laid BY PROGRAM, IN A SANDBOX (cutbox-rows.mjs): the forced cells as the released guide's own fill.sh prints them over the translation 287a4b64ae6c941d… (all of the seat's roots in one cut). By AI agents, Wed Nov 11 2026. No macro, syntax, notation, axiom, sorry.
-/
import Derived.Test.YtcgpmenknloagaaChecked
import GoSem.Claim
import GoSem.ClaimJoined
import GoSem.ClaimMapViews
import Derived.JoinedTies
import Derived.KernelRfl
namespace Go.Proofs.Ytcgpmenknloagaa
/- THE CELL 'sum', in the pinned program and in every row, IS THE sha256 OF THE DUMP (.gsa) THAT YtcgpmenknloagaaProg.lean LOADS. Nothing in Lean hashes anything: it is a label: what it is worth is what the hold of that sum in a sandbox is worth. -/
noncomputable def Try.pinned : Pinned := { name := "ytcgpmenknloagaa", sum := "287a4b64ae6c941d2e3e3ebf02f7b44ded9c826ce31d30e15ef54994fcb7d7ef", checked := Try.checked }
namespace Rows
def none {H : Type} : Left H := { results := [], args := [] }

/-- 'deponentlaw15.QueueNumbers': WHATEVER THE INPUT: true; the input reads as it did. -/
def queueNumbersSpec : ChangeSpec := { name := "queueNumbers", fn := fun _ => fun
  | [] => { results := [.lit (.bool true)], args := [] }
  | _ => none }
def queueNumbersRow : OpenClaim := { program := "ytcgpmenknloagaa", sum := "287a4b64ae6c941d2e3e3ebf02f7b44ded9c826ce31d30e15ef54994fcb7d7ef", func := "deponent/deponentlaw15.QueueNumbers", spec := "queueNumbers", apart := false }
def QueueNumbersSaid : Prop := queueNumbersRow.holds Try.pinned (OpenSpec.ofChange queueNumbersSpec)

/-- ITS FALSE NEIGHBOUR: 'it returns false'. Refute it at one input. -/
def queueNumbersWrong : ChangeSpec := { name := "queueNumbers", fn := fun _ => fun
  | [] => { results := [.lit (.bool false)], args := [] }
  | _ => none }
def QueueNumbersWrongFalsely : Prop := queueNumbersRow.holds Try.pinned (OpenSpec.ofChange queueNumbersWrong)

/-- 'deponentlaw15.QueueAny': WHATEVER THE INPUT: true; the input reads as it did. -/
def queueAnySpec : ChangeSpec := { name := "queueAny", fn := fun _ => fun
  | [d] => { results := [.lit (.bool true)], args := [d] }
  | _ => none }
def queueAnyRow : OpenClaim := { program := "ytcgpmenknloagaa", sum := "287a4b64ae6c941d2e3e3ebf02f7b44ded9c826ce31d30e15ef54994fcb7d7ef", func := "deponent/deponentlaw15.QueueAny", spec := "queueAny", apart := false }
def QueueAnySaid : Prop := queueAnyRow.holds Try.pinned (OpenSpec.ofChange queueAnySpec)

/-- ITS FALSE NEIGHBOUR: 'it returns false'. Refute it at one input. -/
def queueAnyWrong : ChangeSpec := { name := "queueAny", fn := fun _ => fun
  | [d] => { results := [.lit (.bool false)], args := [d] }
  | _ => none }
def QueueAnyWrongFalsely : Prop := queueAnyRow.holds Try.pinned (OpenSpec.ofChange queueAnyWrong)

/-- 'deponentlaw15.QueuePlays': WHATEVER THE INPUT: true; the input reads as it did. -/
def queuePlaysSpec : ChangeSpec := { name := "queuePlays", fn := fun _ => fun
  | [d] => { results := [.lit (.bool true)], args := [d] }
  | _ => none }
def queuePlaysRow : OpenClaim := { program := "ytcgpmenknloagaa", sum := "287a4b64ae6c941d2e3e3ebf02f7b44ded9c826ce31d30e15ef54994fcb7d7ef", func := "deponent/deponentlaw15.QueuePlays", spec := "queuePlays", apart := false }
def QueuePlaysSaid : Prop := queuePlaysRow.holds Try.pinned (OpenSpec.ofChange queuePlaysSpec)

/-- ITS FALSE NEIGHBOUR: 'it returns false'. Refute it at one input. -/
def queuePlaysWrong : ChangeSpec := { name := "queuePlays", fn := fun _ => fun
  | [d] => { results := [.lit (.bool false)], args := [d] }
  | _ => none }
def QueuePlaysWrongFalsely : Prop := queuePlaysRow.holds Try.pinned (OpenSpec.ofChange queuePlaysWrong)

/-- 'deponentlaw15.QueueKept': WHATEVER THE INPUT: true; the input reads as it did. -/
def queueKeptSpec : ChangeSpec := { name := "queueKept", fn := fun _ => fun
  | [d] => { results := [.lit (.bool true)], args := [d] }
  | _ => none }
def queueKeptRow : OpenClaim := { program := "ytcgpmenknloagaa", sum := "287a4b64ae6c941d2e3e3ebf02f7b44ded9c826ce31d30e15ef54994fcb7d7ef", func := "deponent/deponentlaw15.QueueKept", spec := "queueKept", unfollowed := true, recurses := true, apart := false }
def QueueKeptSaid : Prop := queueKeptRow.holds Try.pinned (OpenSpec.ofChange queueKeptSpec)

/-- ITS FALSE NEIGHBOUR: 'it returns false'. Refute it at one input. -/
def queueKeptWrong : ChangeSpec := { name := "queueKept", fn := fun _ => fun
  | [d] => { results := [.lit (.bool false)], args := [d] }
  | _ => none }
def QueueKeptWrongFalsely : Prop := queueKeptRow.holds Try.pinned (OpenSpec.ofChange queueKeptWrong)

/-- 'deponentlaw16.FairNumbers': WHATEVER THE INPUT: true; the input reads as it did. -/
def fairNumbersSpec : ChangeSpec := { name := "fairNumbers", fn := fun _ => fun
  | [] => { results := [.lit (.bool true)], args := [] }
  | _ => none }
def fairNumbersRow : OpenClaim := { program := "ytcgpmenknloagaa", sum := "287a4b64ae6c941d2e3e3ebf02f7b44ded9c826ce31d30e15ef54994fcb7d7ef", func := "deponent/deponentlaw16.FairNumbers", spec := "fairNumbers", apart := false }
def FairNumbersSaid : Prop := fairNumbersRow.holds Try.pinned (OpenSpec.ofChange fairNumbersSpec)

/-- ITS FALSE NEIGHBOUR: 'it returns false'. Refute it at one input. -/
def fairNumbersWrong : ChangeSpec := { name := "fairNumbers", fn := fun _ => fun
  | [] => { results := [.lit (.bool false)], args := [] }
  | _ => none }
def FairNumbersWrongFalsely : Prop := fairNumbersRow.holds Try.pinned (OpenSpec.ofChange fairNumbersWrong)

/-- 'deponentlaw16.FairServes': WHATEVER THE INPUT: true; the input reads as it did. -/
def fairServesSpec : ChangeSpec := { name := "fairServes", fn := fun _ => fun
  | [d1, d2, d3, d4, d5, d6] => { results := [.lit (.bool true)], args := [d1, d2, d3, d4, d5, d6] }
  | _ => none }
def fairServesRow : OpenClaim := { program := "ytcgpmenknloagaa", sum := "287a4b64ae6c941d2e3e3ebf02f7b44ded9c826ce31d30e15ef54994fcb7d7ef", func := "deponent/deponentlaw16.FairServes", spec := "fairServes", apart := false }
def FairServesSaid : Prop := fairServesRow.holds Try.pinned (OpenSpec.ofChange fairServesSpec)

/-- ITS FALSE NEIGHBOUR: 'it returns false'. Refute it at one input. -/
def fairServesWrong : ChangeSpec := { name := "fairServes", fn := fun _ => fun
  | [d1, d2, d3, d4, d5, d6] => { results := [.lit (.bool false)], args := [d1, d2, d3, d4, d5, d6] }
  | _ => none }
def FairServesWrongFalsely : Prop := fairServesRow.holds Try.pinned (OpenSpec.ofChange fairServesWrong)

/-- 'deponentlaw16.FairWaits': WHATEVER THE INPUT: true; the input reads as it did. -/
def fairWaitsSpec : ChangeSpec := { name := "fairWaits", fn := fun _ => fun
  | [d1, d2, d3, d4, d5, d6] => { results := [.lit (.bool true)], args := [d1, d2, d3, d4, d5, d6] }
  | _ => none }
def fairWaitsRow : OpenClaim := { program := "ytcgpmenknloagaa", sum := "287a4b64ae6c941d2e3e3ebf02f7b44ded9c826ce31d30e15ef54994fcb7d7ef", func := "deponent/deponentlaw16.FairWaits", spec := "fairWaits", apart := false }
def FairWaitsSaid : Prop := fairWaitsRow.holds Try.pinned (OpenSpec.ofChange fairWaitsSpec)

/-- ITS FALSE NEIGHBOUR: 'it returns false'. Refute it at one input. -/
def fairWaitsWrong : ChangeSpec := { name := "fairWaits", fn := fun _ => fun
  | [d1, d2, d3, d4, d5, d6] => { results := [.lit (.bool false)], args := [d1, d2, d3, d4, d5, d6] }
  | _ => none }
def FairWaitsWrongFalsely : Prop := fairWaitsRow.holds Try.pinned (OpenSpec.ofChange fairWaitsWrong)

/-- 'deponentlaw16.FairShares': WHATEVER THE INPUT: true; the input reads as it did. -/
def fairSharesSpec : ChangeSpec := { name := "fairShares", fn := fun _ => fun
  | [d1, d2, d3, d4, d5] => { results := [.lit (.bool true)], args := [d1, d2, d3, d4, d5] }
  | _ => none }
def fairSharesRow : OpenClaim := { program := "ytcgpmenknloagaa", sum := "287a4b64ae6c941d2e3e3ebf02f7b44ded9c826ce31d30e15ef54994fcb7d7ef", func := "deponent/deponentlaw16.FairShares", spec := "fairShares", apart := false }
def FairSharesSaid : Prop := fairSharesRow.holds Try.pinned (OpenSpec.ofChange fairSharesSpec)

/-- ITS FALSE NEIGHBOUR: 'it returns false'. Refute it at one input. -/
def fairSharesWrong : ChangeSpec := { name := "fairShares", fn := fun _ => fun
  | [d1, d2, d3, d4, d5] => { results := [.lit (.bool false)], args := [d1, d2, d3, d4, d5] }
  | _ => none }
def FairSharesWrongFalsely : Prop := fairSharesRow.holds Try.pinned (OpenSpec.ofChange fairSharesWrong)

/-- 'deponentlaw16.FairKept': WHATEVER THE INPUT: true; the input reads as it did. -/
def fairKeptSpec : ChangeSpec := { name := "fairKept", fn := fun _ => fun
  | [d] => { results := [.lit (.bool true)], args := [d] }
  | _ => none }
def fairKeptRow : OpenClaim := { program := "ytcgpmenknloagaa", sum := "287a4b64ae6c941d2e3e3ebf02f7b44ded9c826ce31d30e15ef54994fcb7d7ef", func := "deponent/deponentlaw16.FairKept", spec := "fairKept", unfollowed := true, recurses := true, apart := false }
def FairKeptSaid : Prop := fairKeptRow.holds Try.pinned (OpenSpec.ofChange fairKeptSpec)

/-- ITS FALSE NEIGHBOUR: 'it returns false'. Refute it at one input. -/
def fairKeptWrong : ChangeSpec := { name := "fairKept", fn := fun _ => fun
  | [d] => { results := [.lit (.bool false)], args := [d] }
  | _ => none }
def FairKeptWrongFalsely : Prop := fairKeptRow.holds Try.pinned (OpenSpec.ofChange fairKeptWrong)

/-- 'deponentlaw16.FairRound': WHATEVER THE INPUT: true; the input reads as it did. -/
def fairRoundSpec : ChangeSpec := { name := "fairRound", fn := fun _ => fun
  | [d1, d2, d3, d4] => { results := [.lit (.bool true)], args := [d1, d2, d3, d4] }
  | _ => none }
def fairRoundRow : OpenClaim := { program := "ytcgpmenknloagaa", sum := "287a4b64ae6c941d2e3e3ebf02f7b44ded9c826ce31d30e15ef54994fcb7d7ef", func := "deponent/deponentlaw16.FairRound", spec := "fairRound", apart := false }
def FairRoundSaid : Prop := fairRoundRow.holds Try.pinned (OpenSpec.ofChange fairRoundSpec)

/-- ITS FALSE NEIGHBOUR: 'it returns false'. Refute it at one input. -/
def fairRoundWrong : ChangeSpec := { name := "fairRound", fn := fun _ => fun
  | [d1, d2, d3, d4] => { results := [.lit (.bool false)], args := [d1, d2, d3, d4] }
  | _ => none }
def FairRoundWrongFalsely : Prop := fairRoundRow.holds Try.pinned (OpenSpec.ofChange fairRoundWrong)

/- THE SECOND FORM. 'bulk': how many values and letters a reading holds, each counted each time it is reached (what is shared counts as often as it is met; a slice's spare places count too). A statement '..UptoSaid' is the law's where the arguments, and the package variables that the reading takes, are together of bulk at most 1048576: NARROWER than '..Said'. Prove '..Said' where nothing that the law and all that it calls make is longer than what came in: it says more and counts as full. Else prove '..UptoSaid'. A law counts once. -/
mutual
def uptoBulk {H : Type} : DataW H → Nat
  | .lit (.string bytes) => bytes.length + 1
  | .lit _ => 1
  | .nil => 1
  | .ptr d => uptoBulk d + 1
  | .slice elems spare => uptoBulkAll elems + uptoBulkAll spare + 1
  | .agg parts => uptoBulkAll parts + 1
  | .iface _ d => uptoBulk d + 1
  | .map entries => uptoBulkEntries entries + 1
  | .held _ => 1
def uptoBulkAll {H : Type} : List (DataW H) → Nat
  | [] => 0
  | d :: r => uptoBulk d + uptoBulkAll r
def uptoBulkEntries {H : Type} : List (Lit × DataW H) → Nat
  | [] => 0
  | x :: r => uptoBulkEntry x + uptoBulkEntries r
def uptoBulkEntry {H : Type} : Lit × DataW H → Nat
  | (.string bytes, d) => bytes.length + uptoBulk d + 1
  | (_, d) => uptoBulk d + 1
 end
def uptoSmall : (H : Type) → List (DataW H) → Bool := fun _ ds => decide (uptoBulkAll ds ≤ 1048576)
def OpenSpec.upto (s : _root_.Go.ChangeSpec) : _root_.Go.OpenSpec := { _root_.Go.OpenSpec.ofChange s with cond := some uptoSmall }

/-- 'deponentlaw15.QueueNumbers', WHERE WHAT IT READS IS OF BULK AT MOST 1048576: true; the input reads as it did. -/
def queueNumbersUptoRow : OpenClaim := { program := "ytcgpmenknloagaa", sum := "287a4b64ae6c941d2e3e3ebf02f7b44ded9c826ce31d30e15ef54994fcb7d7ef", func := "deponent/deponentlaw15.QueueNumbers", spec := "queueNumbers", apart := false, narrowed := true }
def QueueNumbersUptoSaid : Prop := queueNumbersUptoRow.holds Try.pinned (OpenSpec.upto queueNumbersSpec)

/-- 'deponentlaw15.QueueAny', WHERE WHAT IT READS IS OF BULK AT MOST 1048576: true; the input reads as it did. -/
def queueAnyUptoRow : OpenClaim := { program := "ytcgpmenknloagaa", sum := "287a4b64ae6c941d2e3e3ebf02f7b44ded9c826ce31d30e15ef54994fcb7d7ef", func := "deponent/deponentlaw15.QueueAny", spec := "queueAny", apart := false, narrowed := true }
def QueueAnyUptoSaid : Prop := queueAnyUptoRow.holds Try.pinned (OpenSpec.upto queueAnySpec)

/-- 'deponentlaw15.QueuePlays', WHERE WHAT IT READS IS OF BULK AT MOST 1048576: true; the input reads as it did. -/
def queuePlaysUptoRow : OpenClaim := { program := "ytcgpmenknloagaa", sum := "287a4b64ae6c941d2e3e3ebf02f7b44ded9c826ce31d30e15ef54994fcb7d7ef", func := "deponent/deponentlaw15.QueuePlays", spec := "queuePlays", apart := false, narrowed := true }
def QueuePlaysUptoSaid : Prop := queuePlaysUptoRow.holds Try.pinned (OpenSpec.upto queuePlaysSpec)

/-- 'deponentlaw15.QueueKept', WHERE WHAT IT READS IS OF BULK AT MOST 1048576: true; the input reads as it did. -/
def queueKeptUptoRow : OpenClaim := { program := "ytcgpmenknloagaa", sum := "287a4b64ae6c941d2e3e3ebf02f7b44ded9c826ce31d30e15ef54994fcb7d7ef", func := "deponent/deponentlaw15.QueueKept", spec := "queueKept", unfollowed := true, recurses := true, apart := false, narrowed := true }
def QueueKeptUptoSaid : Prop := queueKeptUptoRow.holds Try.pinned (OpenSpec.upto queueKeptSpec)

/-- 'deponentlaw16.FairNumbers', WHERE WHAT IT READS IS OF BULK AT MOST 1048576: true; the input reads as it did. -/
def fairNumbersUptoRow : OpenClaim := { program := "ytcgpmenknloagaa", sum := "287a4b64ae6c941d2e3e3ebf02f7b44ded9c826ce31d30e15ef54994fcb7d7ef", func := "deponent/deponentlaw16.FairNumbers", spec := "fairNumbers", apart := false, narrowed := true }
def FairNumbersUptoSaid : Prop := fairNumbersUptoRow.holds Try.pinned (OpenSpec.upto fairNumbersSpec)

/-- 'deponentlaw16.FairServes', WHERE WHAT IT READS IS OF BULK AT MOST 1048576: true; the input reads as it did. -/
def fairServesUptoRow : OpenClaim := { program := "ytcgpmenknloagaa", sum := "287a4b64ae6c941d2e3e3ebf02f7b44ded9c826ce31d30e15ef54994fcb7d7ef", func := "deponent/deponentlaw16.FairServes", spec := "fairServes", apart := false, narrowed := true }
def FairServesUptoSaid : Prop := fairServesUptoRow.holds Try.pinned (OpenSpec.upto fairServesSpec)

/-- 'deponentlaw16.FairWaits', WHERE WHAT IT READS IS OF BULK AT MOST 1048576: true; the input reads as it did. -/
def fairWaitsUptoRow : OpenClaim := { program := "ytcgpmenknloagaa", sum := "287a4b64ae6c941d2e3e3ebf02f7b44ded9c826ce31d30e15ef54994fcb7d7ef", func := "deponent/deponentlaw16.FairWaits", spec := "fairWaits", apart := false, narrowed := true }
def FairWaitsUptoSaid : Prop := fairWaitsUptoRow.holds Try.pinned (OpenSpec.upto fairWaitsSpec)

/-- 'deponentlaw16.FairShares', WHERE WHAT IT READS IS OF BULK AT MOST 1048576: true; the input reads as it did. -/
def fairSharesUptoRow : OpenClaim := { program := "ytcgpmenknloagaa", sum := "287a4b64ae6c941d2e3e3ebf02f7b44ded9c826ce31d30e15ef54994fcb7d7ef", func := "deponent/deponentlaw16.FairShares", spec := "fairShares", apart := false, narrowed := true }
def FairSharesUptoSaid : Prop := fairSharesUptoRow.holds Try.pinned (OpenSpec.upto fairSharesSpec)

/-- 'deponentlaw16.FairKept', WHERE WHAT IT READS IS OF BULK AT MOST 1048576: true; the input reads as it did. -/
def fairKeptUptoRow : OpenClaim := { program := "ytcgpmenknloagaa", sum := "287a4b64ae6c941d2e3e3ebf02f7b44ded9c826ce31d30e15ef54994fcb7d7ef", func := "deponent/deponentlaw16.FairKept", spec := "fairKept", unfollowed := true, recurses := true, apart := false, narrowed := true }
def FairKeptUptoSaid : Prop := fairKeptUptoRow.holds Try.pinned (OpenSpec.upto fairKeptSpec)

/-- 'deponentlaw16.FairRound', WHERE WHAT IT READS IS OF BULK AT MOST 1048576: true; the input reads as it did. -/
def fairRoundUptoRow : OpenClaim := { program := "ytcgpmenknloagaa", sum := "287a4b64ae6c941d2e3e3ebf02f7b44ded9c826ce31d30e15ef54994fcb7d7ef", func := "deponent/deponentlaw16.FairRound", spec := "fairRound", apart := false, narrowed := true }
def FairRoundUptoSaid : Prop := fairRoundUptoRow.holds Try.pinned (OpenSpec.upto fairRoundSpec)

end Rows
end Go.Proofs.Ytcgpmenknloagaa
