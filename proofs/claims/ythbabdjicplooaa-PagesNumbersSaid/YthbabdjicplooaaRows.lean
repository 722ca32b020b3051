/-
  No cell of these rows narrows 'for every input' (looked for: loops, veiled, ifaces, maps, wideKeys, modest, calm, conditions, laid).
  DERIVED. THE GIVEN ROWS OF THIS SEAT. 18 by the template 'for every input the law returns true; each argument reads behind the call as it read before'; 0 by the template 'total and deterministic' (their statements: YthbabdjicplooaaTotals.lean).
  GIVEN WITH THE SEED: the statements are not yours to turn. If you find one false, say at which input.
  Laid BY PROGRAM, IN A SANDBOX (cutbox-rows.mjs): the forced cells as the released guide's own fill.sh prints them over the translation f9c89cb7f7f33850… (all of the seat's roots in one cut). By AI agents, Wed Nov 11 2026. No macro, syntax, notation, axiom, sorry.
-/
import Derived.Test.YthbabdjicplooaaChecked
import GoSem.Claim
import GoSem.ClaimJoined
import GoSem.ClaimMapViews
import Derived.JoinedTies
import Derived.KernelRfl
namespace Go.Proofs.Ythbabdjicplooaa
/- THE CELL 'sum', in the pinned program and in every row, IS THE sha256 OF THE DUMP (.gsa) THAT YthbabdjicplooaaProg.lean LOADS. Nothing in Lean hashes anything: it is a label: what it is worth is what the hold of that sum in a sandbox is worth. -/
noncomputable def Try.pinned : Pinned := { name := "ythbabdjicplooaa", sum := "f9c89cb7f7f33850af307828e4e5673dd501996880688331237b70d7d02c73de", checked := Try.checked }
namespace Rows
def none {H : Type} : Left H := { results := [], args := [] }

/-- 'deponentlaw3.DiskFlushed': WHATEVER THE INPUT: true; the input reads as it did. -/
def diskFlushedSpec : ChangeSpec := { name := "diskFlushed", fn := fun _ => fun
  | [d1, d2, d3] => { results := [.lit (.bool true)], args := [d1, d2, d3] }
  | _ => none }
def diskFlushedRow : OpenClaim := { program := "ythbabdjicplooaa", sum := "f9c89cb7f7f33850af307828e4e5673dd501996880688331237b70d7d02c73de", func := "deponent/deponentlaw3.DiskFlushed", spec := "diskFlushed", apart := false }
def DiskFlushedSaid : Prop := diskFlushedRow.holds Try.pinned (OpenSpec.ofChange diskFlushedSpec)

/-- ITS FALSE NEIGHBOUR: 'it returns false'. Refute it at one input. -/
def diskFlushedWrong : ChangeSpec := { name := "diskFlushed", fn := fun _ => fun
  | [d1, d2, d3] => { results := [.lit (.bool false)], args := [d1, d2, d3] }
  | _ => none }
def DiskFlushedWrongFalsely : Prop := diskFlushedRow.holds Try.pinned (OpenSpec.ofChange diskFlushedWrong)

/-- 'deponentlaw3.DiskKept': WHATEVER THE INPUT: true; the input reads as it did. -/
def diskKeptSpec : ChangeSpec := { name := "diskKept", fn := fun _ => fun
  | [d] => { results := [.lit (.bool true)], args := [d] }
  | _ => none }
def diskKeptRow : OpenClaim := { program := "ythbabdjicplooaa", sum := "f9c89cb7f7f33850af307828e4e5673dd501996880688331237b70d7d02c73de", func := "deponent/deponentlaw3.DiskKept", spec := "diskKept", unfollowed := true, recurses := true, apart := false }
def DiskKeptSaid : Prop := diskKeptRow.holds Try.pinned (OpenSpec.ofChange diskKeptSpec)

/-- ITS FALSE NEIGHBOUR: 'it returns false'. Refute it at one input. -/
def diskKeptWrong : ChangeSpec := { name := "diskKept", fn := fun _ => fun
  | [d] => { results := [.lit (.bool false)], args := [d] }
  | _ => none }
def DiskKeptWrongFalsely : Prop := diskKeptRow.holds Try.pinned (OpenSpec.ofChange diskKeptWrong)

/-- 'deponentlaw3.DiskOrder': WHATEVER THE INPUT: true; the input reads as it did. -/
def diskOrderSpec : ChangeSpec := { name := "diskOrder", fn := fun _ => fun
  | [d1, d2] => { results := [.lit (.bool true)], args := [d1, d2] }
  | _ => none }
def diskOrderRow : OpenClaim := { program := "ythbabdjicplooaa", sum := "f9c89cb7f7f33850af307828e4e5673dd501996880688331237b70d7d02c73de", func := "deponent/deponentlaw3.DiskOrder", spec := "diskOrder", apart := false }
def DiskOrderSaid : Prop := diskOrderRow.holds Try.pinned (OpenSpec.ofChange diskOrderSpec)

/-- ITS FALSE NEIGHBOUR: 'it returns false'. Refute it at one input. -/
def diskOrderWrong : ChangeSpec := { name := "diskOrder", fn := fun _ => fun
  | [d1, d2] => { results := [.lit (.bool false)], args := [d1, d2] }
  | _ => none }
def DiskOrderWrongFalsely : Prop := diskOrderRow.holds Try.pinned (OpenSpec.ofChange diskOrderWrong)

/-- 'deponentlaw3.DiskStops': WHATEVER THE INPUT: true; the input reads as it did. -/
def diskStopsSpec : ChangeSpec := { name := "diskStops", fn := fun _ => fun
  | [d1, d2] => { results := [.lit (.bool true)], args := [d1, d2] }
  | _ => none }
def diskStopsRow : OpenClaim := { program := "ythbabdjicplooaa", sum := "f9c89cb7f7f33850af307828e4e5673dd501996880688331237b70d7d02c73de", func := "deponent/deponentlaw3.DiskStops", spec := "diskStops", apart := false }
def DiskStopsSaid : Prop := diskStopsRow.holds Try.pinned (OpenSpec.ofChange diskStopsSpec)

/-- ITS FALSE NEIGHBOUR: 'it returns false'. Refute it at one input. -/
def diskStopsWrong : ChangeSpec := { name := "diskStops", fn := fun _ => fun
  | [d1, d2] => { results := [.lit (.bool false)], args := [d1, d2] }
  | _ => none }
def DiskStopsWrongFalsely : Prop := diskStopsRow.holds Try.pinned (OpenSpec.ofChange diskStopsWrong)

/-- 'deponentlaw3.DiskNumbers': WHATEVER THE INPUT: true; the input reads as it did. -/
def diskNumbersSpec : ChangeSpec := { name := "diskNumbers", fn := fun _ => fun
  | [] => { results := [.lit (.bool true)], args := [] }
  | _ => none }
def diskNumbersRow : OpenClaim := { program := "ythbabdjicplooaa", sum := "f9c89cb7f7f33850af307828e4e5673dd501996880688331237b70d7d02c73de", func := "deponent/deponentlaw3.DiskNumbers", spec := "diskNumbers", apart := false }
def DiskNumbersSaid : Prop := diskNumbersRow.holds Try.pinned (OpenSpec.ofChange diskNumbersSpec)

/-- ITS FALSE NEIGHBOUR: 'it returns false'. Refute it at one input. -/
def diskNumbersWrong : ChangeSpec := { name := "diskNumbers", fn := fun _ => fun
  | [] => { results := [.lit (.bool false)], args := [] }
  | _ => none }
def DiskNumbersWrongFalsely : Prop := diskNumbersRow.holds Try.pinned (OpenSpec.ofChange diskNumbersWrong)

/-- 'deponentlaw3.DiskPlays': WHATEVER THE INPUT: true; the input reads as it did. -/
def diskPlaysSpec : ChangeSpec := { name := "diskPlays", fn := fun _ => fun
  | [d1, d2] => { results := [.lit (.bool true)], args := [d1, d2] }
  | _ => none }
def diskPlaysRow : OpenClaim := { program := "ythbabdjicplooaa", sum := "f9c89cb7f7f33850af307828e4e5673dd501996880688331237b70d7d02c73de", func := "deponent/deponentlaw3.DiskPlays", spec := "diskPlays", inPlace := ["maps.clone"], apart := false }
def DiskPlaysSaid : Prop := diskPlaysRow.holds Try.pinned (OpenSpec.ofChange diskPlaysSpec)

/-- ITS FALSE NEIGHBOUR: 'it returns false'. Refute it at one input. -/
def diskPlaysWrong : ChangeSpec := { name := "diskPlays", fn := fun _ => fun
  | [d1, d2] => { results := [.lit (.bool false)], args := [d1, d2] }
  | _ => none }
def DiskPlaysWrongFalsely : Prop := diskPlaysRow.holds Try.pinned (OpenSpec.ofChange diskPlaysWrong)

/-- 'deponentlaw4.WalKept': WHATEVER THE INPUT: true; the input reads as it did. -/
def walKeptSpec : ChangeSpec := { name := "walKept", fn := fun _ => fun
  | [d] => { results := [.lit (.bool true)], args := [d] }
  | _ => none }
def walKeptRow : OpenClaim := { program := "ythbabdjicplooaa", sum := "f9c89cb7f7f33850af307828e4e5673dd501996880688331237b70d7d02c73de", func := "deponent/deponentlaw4.WalKept", spec := "walKept", unfollowed := true, recurses := true, apart := false }
def WalKeptSaid : Prop := walKeptRow.holds Try.pinned (OpenSpec.ofChange walKeptSpec)

/-- ITS FALSE NEIGHBOUR: 'it returns false'. Refute it at one input. -/
def walKeptWrong : ChangeSpec := { name := "walKept", fn := fun _ => fun
  | [d] => { results := [.lit (.bool false)], args := [d] }
  | _ => none }
def WalKeptWrongFalsely : Prop := walKeptRow.holds Try.pinned (OpenSpec.ofChange walKeptWrong)

/-- 'deponentlaw4.WalBare': WHATEVER THE INPUT: true; the input reads as it did. -/
def walBareSpec : ChangeSpec := { name := "walBare", fn := fun _ => fun
  | [d1, d2] => { results := [.lit (.bool true)], args := [d1, d2] }
  | _ => none }
def walBareRow : OpenClaim := { program := "ythbabdjicplooaa", sum := "f9c89cb7f7f33850af307828e4e5673dd501996880688331237b70d7d02c73de", func := "deponent/deponentlaw4.WalBare", spec := "walBare", apart := false }
def WalBareSaid : Prop := walBareRow.holds Try.pinned (OpenSpec.ofChange walBareSpec)

/-- ITS FALSE NEIGHBOUR: 'it returns false'. Refute it at one input. -/
def walBareWrong : ChangeSpec := { name := "walBare", fn := fun _ => fun
  | [d1, d2] => { results := [.lit (.bool false)], args := [d1, d2] }
  | _ => none }
def WalBareWrongFalsely : Prop := walBareRow.holds Try.pinned (OpenSpec.ofChange walBareWrong)

/-- 'deponentlaw4.WalTwo': WHATEVER THE INPUT: true; the input reads as it did. -/
def walTwoSpec : ChangeSpec := { name := "walTwo", fn := fun _ => fun
  | [d1, d2] => { results := [.lit (.bool true)], args := [d1, d2] }
  | _ => none }
def walTwoRow : OpenClaim := { program := "ythbabdjicplooaa", sum := "f9c89cb7f7f33850af307828e4e5673dd501996880688331237b70d7d02c73de", func := "deponent/deponentlaw4.WalTwo", spec := "walTwo", apart := false }
def WalTwoSaid : Prop := walTwoRow.holds Try.pinned (OpenSpec.ofChange walTwoSpec)

/-- ITS FALSE NEIGHBOUR: 'it returns false'. Refute it at one input. -/
def walTwoWrong : ChangeSpec := { name := "walTwo", fn := fun _ => fun
  | [d1, d2] => { results := [.lit (.bool false)], args := [d1, d2] }
  | _ => none }
def WalTwoWrongFalsely : Prop := walTwoRow.holds Try.pinned (OpenSpec.ofChange walTwoWrong)

/-- 'deponentlaw4.WalFull': WHATEVER THE INPUT: true; the input reads as it did. -/
def walFullSpec : ChangeSpec := { name := "walFull", fn := fun _ => fun
  | [d1, d2] => { results := [.lit (.bool true)], args := [d1, d2] }
  | _ => none }
def walFullRow : OpenClaim := { program := "ythbabdjicplooaa", sum := "f9c89cb7f7f33850af307828e4e5673dd501996880688331237b70d7d02c73de", func := "deponent/deponentlaw4.WalFull", spec := "walFull", apart := false }
def WalFullSaid : Prop := walFullRow.holds Try.pinned (OpenSpec.ofChange walFullSpec)

/-- ITS FALSE NEIGHBOUR: 'it returns false'. Refute it at one input. -/
def walFullWrong : ChangeSpec := { name := "walFull", fn := fun _ => fun
  | [d1, d2] => { results := [.lit (.bool false)], args := [d1, d2] }
  | _ => none }
def WalFullWrongFalsely : Prop := walFullRow.holds Try.pinned (OpenSpec.ofChange walFullWrong)

/-- 'deponentlaw4.WalNumbers': WHATEVER THE INPUT: true; the input reads as it did. -/
def walNumbersSpec : ChangeSpec := { name := "walNumbers", fn := fun _ => fun
  | [] => { results := [.lit (.bool true)], args := [] }
  | _ => none }
def walNumbersRow : OpenClaim := { program := "ythbabdjicplooaa", sum := "f9c89cb7f7f33850af307828e4e5673dd501996880688331237b70d7d02c73de", func := "deponent/deponentlaw4.WalNumbers", spec := "walNumbers", apart := false }
def WalNumbersSaid : Prop := walNumbersRow.holds Try.pinned (OpenSpec.ofChange walNumbersSpec)

/-- ITS FALSE NEIGHBOUR: 'it returns false'. Refute it at one input. -/
def walNumbersWrong : ChangeSpec := { name := "walNumbers", fn := fun _ => fun
  | [] => { results := [.lit (.bool false)], args := [] }
  | _ => none }
def WalNumbersWrongFalsely : Prop := walNumbersRow.holds Try.pinned (OpenSpec.ofChange walNumbersWrong)

/-- 'deponentlaw4.WalStops': WHATEVER THE INPUT: true; the input reads as it did. -/
def walStopsSpec : ChangeSpec := { name := "walStops", fn := fun _ => fun
  | [d1, d2, d3, d4, d5] => { results := [.lit (.bool true)], args := [d1, d2, d3, d4, d5] }
  | _ => none }
def walStopsRow : OpenClaim := { program := "ythbabdjicplooaa", sum := "f9c89cb7f7f33850af307828e4e5673dd501996880688331237b70d7d02c73de", func := "deponent/deponentlaw4.WalStops", spec := "walStops", apart := false }
def WalStopsSaid : Prop := walStopsRow.holds Try.pinned (OpenSpec.ofChange walStopsSpec)

/-- ITS FALSE NEIGHBOUR: 'it returns false'. Refute it at one input. -/
def walStopsWrong : ChangeSpec := { name := "walStops", fn := fun _ => fun
  | [d1, d2, d3, d4, d5] => { results := [.lit (.bool false)], args := [d1, d2, d3, d4, d5] }
  | _ => none }
def WalStopsWrongFalsely : Prop := walStopsRow.holds Try.pinned (OpenSpec.ofChange walStopsWrong)

/-- 'deponentlaw4.WalKeeps': WHATEVER THE INPUT: true; the input reads as it did. -/
def walKeepsSpec : ChangeSpec := { name := "walKeeps", fn := fun _ => fun
  | [d] => { results := [.lit (.bool true)], args := [d] }
  | _ => none }
def walKeepsRow : OpenClaim := { program := "ythbabdjicplooaa", sum := "f9c89cb7f7f33850af307828e4e5673dd501996880688331237b70d7d02c73de", func := "deponent/deponentlaw4.WalKeeps", spec := "walKeeps", apart := false }
def WalKeepsSaid : Prop := walKeepsRow.holds Try.pinned (OpenSpec.ofChange walKeepsSpec)

/-- ITS FALSE NEIGHBOUR: 'it returns false'. Refute it at one input. -/
def walKeepsWrong : ChangeSpec := { name := "walKeeps", fn := fun _ => fun
  | [d] => { results := [.lit (.bool false)], args := [d] }
  | _ => none }
def WalKeepsWrongFalsely : Prop := walKeepsRow.holds Try.pinned (OpenSpec.ofChange walKeepsWrong)

/-- 'deponentlaw5.PagesNumbers': WHATEVER THE INPUT: true; the input reads as it did. -/
def pagesNumbersSpec : ChangeSpec := { name := "pagesNumbers", fn := fun _ => fun
  | [] => { results := [.lit (.bool true)], args := [] }
  | _ => none }
def pagesNumbersRow : OpenClaim := { program := "ythbabdjicplooaa", sum := "f9c89cb7f7f33850af307828e4e5673dd501996880688331237b70d7d02c73de", func := "deponent/deponentlaw5.PagesNumbers", spec := "pagesNumbers", apart := false }
def PagesNumbersSaid : Prop := pagesNumbersRow.holds Try.pinned (OpenSpec.ofChange pagesNumbersSpec)

/-- ITS FALSE NEIGHBOUR: 'it returns false'. Refute it at one input. -/
def pagesNumbersWrong : ChangeSpec := { name := "pagesNumbers", fn := fun _ => fun
  | [] => { results := [.lit (.bool false)], args := [] }
  | _ => none }
def PagesNumbersWrongFalsely : Prop := pagesNumbersRow.holds Try.pinned (OpenSpec.ofChange pagesNumbersWrong)

/-- 'deponentlaw5.PagesKept': WHATEVER THE INPUT: true; the input reads as it did. -/
def pagesKeptSpec : ChangeSpec := { name := "pagesKept", fn := fun _ => fun
  | [d] => { results := [.lit (.bool true)], args := [d] }
  | _ => none }
def pagesKeptRow : OpenClaim := { program := "ythbabdjicplooaa", sum := "f9c89cb7f7f33850af307828e4e5673dd501996880688331237b70d7d02c73de", func := "deponent/deponentlaw5.PagesKept", spec := "pagesKept", apart := false }
def PagesKeptSaid : Prop := pagesKeptRow.holds Try.pinned (OpenSpec.ofChange pagesKeptSpec)

/-- ITS FALSE NEIGHBOUR: 'it returns false'. Refute it at one input. -/
def pagesKeptWrong : ChangeSpec := { name := "pagesKept", fn := fun _ => fun
  | [d] => { results := [.lit (.bool false)], args := [d] }
  | _ => none }
def PagesKeptWrongFalsely : Prop := pagesKeptRow.holds Try.pinned (OpenSpec.ofChange pagesKeptWrong)

/-- 'deponentlaw5.PagesMany': WHATEVER THE INPUT: true; the input reads as it did. -/
def pagesManySpec : ChangeSpec := { name := "pagesMany", fn := fun _ => fun
  | [d1, d2, d3, d4] => { results := [.lit (.bool true)], args := [d1, d2, d3, d4] }
  | _ => none }
def pagesManyRow : OpenClaim := { program := "ythbabdjicplooaa", sum := "f9c89cb7f7f33850af307828e4e5673dd501996880688331237b70d7d02c73de", func := "deponent/deponentlaw5.PagesMany", spec := "pagesMany", apart := false }
def PagesManySaid : Prop := pagesManyRow.holds Try.pinned (OpenSpec.ofChange pagesManySpec)

/-- ITS FALSE NEIGHBOUR: 'it returns false'. Refute it at one input. -/
def pagesManyWrong : ChangeSpec := { name := "pagesMany", fn := fun _ => fun
  | [d1, d2, d3, d4] => { results := [.lit (.bool false)], args := [d1, d2, d3, d4] }
  | _ => none }
def PagesManyWrongFalsely : Prop := pagesManyRow.holds Try.pinned (OpenSpec.ofChange pagesManyWrong)

/-- 'deponentlaw5.PagesKeep': WHATEVER THE INPUT: true; the input reads as it did. -/
def pagesKeepSpec : ChangeSpec := { name := "pagesKeep", fn := fun _ => fun
  | [d] => { results := [.lit (.bool true)], args := [d] }
  | _ => none }
def pagesKeepRow : OpenClaim := { program := "ythbabdjicplooaa", sum := "f9c89cb7f7f33850af307828e4e5673dd501996880688331237b70d7d02c73de", func := "deponent/deponentlaw5.PagesKeep", spec := "pagesKeep", apart := false }
def PagesKeepSaid : Prop := pagesKeepRow.holds Try.pinned (OpenSpec.ofChange pagesKeepSpec)

/-- ITS FALSE NEIGHBOUR: 'it returns false'. Refute it at one input. -/
def pagesKeepWrong : ChangeSpec := { name := "pagesKeep", fn := fun _ => fun
  | [d] => { results := [.lit (.bool false)], args := [d] }
  | _ => none }
def PagesKeepWrongFalsely : Prop := pagesKeepRow.holds Try.pinned (OpenSpec.ofChange pagesKeepWrong)

/-- 'deponentlaw5.PagesStop': WHATEVER THE INPUT: true; the input reads as it did. -/
def pagesStopSpec : ChangeSpec := { name := "pagesStop", fn := fun _ => fun
  | [d1, d2, d3, d4] => { results := [.lit (.bool true)], args := [d1, d2, d3, d4] }
  | _ => none }
def pagesStopRow : OpenClaim := { program := "ythbabdjicplooaa", sum := "f9c89cb7f7f33850af307828e4e5673dd501996880688331237b70d7d02c73de", func := "deponent/deponentlaw5.PagesStop", spec := "pagesStop", apart := false }
def PagesStopSaid : Prop := pagesStopRow.holds Try.pinned (OpenSpec.ofChange pagesStopSpec)

/-- ITS FALSE NEIGHBOUR: 'it returns false'. Refute it at one input. -/
def pagesStopWrong : ChangeSpec := { name := "pagesStop", fn := fun _ => fun
  | [d1, d2, d3, d4] => { results := [.lit (.bool false)], args := [d1, d2, d3, d4] }
  | _ => none }
def PagesStopWrongFalsely : Prop := pagesStopRow.holds Try.pinned (OpenSpec.ofChange pagesStopWrong)

/- THE SECOND FORM. 'bulk': how many values and letters a reading holds, each counted each time it is reached (what is shared counts as often as it is met; a slice's spare places count too). A statement '..UptoSaid' is the law's where the arguments, and the package variables that the reading takes, are together of bulk at most 1048576: NARROWER than '..Said'. Prove '..Said' where nothing that the law and all that it calls make is longer than what came in: it says more and counts as full. Else prove '..UptoSaid'. A law counts once. -/
mutual
def uptoBulk {H : Type} : DataW H → Nat
  | .lit (.string bytes) => bytes.length + 1
  | .lit _ => 1
  | .nil => 1
  | .ptr d => uptoBulk d + 1
  | .slice elems spare => uptoBulkAll elems + uptoBulkAll spare + 1
  | .agg parts => uptoBulkAll parts + 1
  | .iface _ d => uptoBulk d + 1
  | .map entries => uptoBulkEntries entries + 1
  | .held _ => 1
def uptoBulkAll {H : Type} : List (DataW H) → Nat
  | [] => 0
  | d :: r => uptoBulk d + uptoBulkAll r
def uptoBulkEntries {H : Type} : List (Lit × DataW H) → Nat
  | [] => 0
  | x :: r => uptoBulkEntry x + uptoBulkEntries r
def uptoBulkEntry {H : Type} : Lit × DataW H → Nat
  | (.string bytes, d) => bytes.length + uptoBulk d + 1
  | (_, d) => uptoBulk d + 1
 end
def uptoSmall : (H : Type) → List (DataW H) → Bool := fun _ ds => decide (uptoBulkAll ds ≤ 1048576)
def OpenSpec.upto (s : _root_.Go.ChangeSpec) : _root_.Go.OpenSpec := { _root_.Go.OpenSpec.ofChange s with cond := some uptoSmall }

/-- 'deponentlaw3.DiskFlushed', WHERE WHAT IT READS IS OF BULK AT MOST 1048576: true; the input reads as it did. -/
def diskFlushedUptoRow : OpenClaim := { program := "ythbabdjicplooaa", sum := "f9c89cb7f7f33850af307828e4e5673dd501996880688331237b70d7d02c73de", func := "deponent/deponentlaw3.DiskFlushed", spec := "diskFlushed", apart := false, narrowed := true }
def DiskFlushedUptoSaid : Prop := diskFlushedUptoRow.holds Try.pinned (OpenSpec.upto diskFlushedSpec)

/-- 'deponentlaw3.DiskKept', WHERE WHAT IT READS IS OF BULK AT MOST 1048576: true; the input reads as it did. -/
def diskKeptUptoRow : OpenClaim := { program := "ythbabdjicplooaa", sum := "f9c89cb7f7f33850af307828e4e5673dd501996880688331237b70d7d02c73de", func := "deponent/deponentlaw3.DiskKept", spec := "diskKept", unfollowed := true, recurses := true, apart := false, narrowed := true }
def DiskKeptUptoSaid : Prop := diskKeptUptoRow.holds Try.pinned (OpenSpec.upto diskKeptSpec)

/-- 'deponentlaw3.DiskOrder', WHERE WHAT IT READS IS OF BULK AT MOST 1048576: true; the input reads as it did. -/
def diskOrderUptoRow : OpenClaim := { program := "ythbabdjicplooaa", sum := "f9c89cb7f7f33850af307828e4e5673dd501996880688331237b70d7d02c73de", func := "deponent/deponentlaw3.DiskOrder", spec := "diskOrder", apart := false, narrowed := true }
def DiskOrderUptoSaid : Prop := diskOrderUptoRow.holds Try.pinned (OpenSpec.upto diskOrderSpec)

/-- 'deponentlaw3.DiskStops', WHERE WHAT IT READS IS OF BULK AT MOST 1048576: true; the input reads as it did. -/
def diskStopsUptoRow : OpenClaim := { program := "ythbabdjicplooaa", sum := "f9c89cb7f7f33850af307828e4e5673dd501996880688331237b70d7d02c73de", func := "deponent/deponentlaw3.DiskStops", spec := "diskStops", apart := false, narrowed := true }
def DiskStopsUptoSaid : Prop := diskStopsUptoRow.holds Try.pinned (OpenSpec.upto diskStopsSpec)

/-- 'deponentlaw3.DiskNumbers', WHERE WHAT IT READS IS OF BULK AT MOST 1048576: true; the input reads as it did. -/
def diskNumbersUptoRow : OpenClaim := { program := "ythbabdjicplooaa", sum := "f9c89cb7f7f33850af307828e4e5673dd501996880688331237b70d7d02c73de", func := "deponent/deponentlaw3.DiskNumbers", spec := "diskNumbers", apart := false, narrowed := true }
def DiskNumbersUptoSaid : Prop := diskNumbersUptoRow.holds Try.pinned (OpenSpec.upto diskNumbersSpec)

/-- 'deponentlaw3.DiskPlays', WHERE WHAT IT READS IS OF BULK AT MOST 1048576: true; the input reads as it did. -/
def diskPlaysUptoRow : OpenClaim := { program := "ythbabdjicplooaa", sum := "f9c89cb7f7f33850af307828e4e5673dd501996880688331237b70d7d02c73de", func := "deponent/deponentlaw3.DiskPlays", spec := "diskPlays", inPlace := ["maps.clone"], apart := false, narrowed := true }
def DiskPlaysUptoSaid : Prop := diskPlaysUptoRow.holds Try.pinned (OpenSpec.upto diskPlaysSpec)

/-- 'deponentlaw4.WalKept', WHERE WHAT IT READS IS OF BULK AT MOST 1048576: true; the input reads as it did. -/
def walKeptUptoRow : OpenClaim := { program := "ythbabdjicplooaa", sum := "f9c89cb7f7f33850af307828e4e5673dd501996880688331237b70d7d02c73de", func := "deponent/deponentlaw4.WalKept", spec := "walKept", unfollowed := true, recurses := true, apart := false, narrowed := true }
def WalKeptUptoSaid : Prop := walKeptUptoRow.holds Try.pinned (OpenSpec.upto walKeptSpec)

/-- 'deponentlaw4.WalBare', WHERE WHAT IT READS IS OF BULK AT MOST 1048576: true; the input reads as it did. -/
def walBareUptoRow : OpenClaim := { program := "ythbabdjicplooaa", sum := "f9c89cb7f7f33850af307828e4e5673dd501996880688331237b70d7d02c73de", func := "deponent/deponentlaw4.WalBare", spec := "walBare", apart := false, narrowed := true }
def WalBareUptoSaid : Prop := walBareUptoRow.holds Try.pinned (OpenSpec.upto walBareSpec)

/-- 'deponentlaw4.WalTwo', WHERE WHAT IT READS IS OF BULK AT MOST 1048576: true; the input reads as it did. -/
def walTwoUptoRow : OpenClaim := { program := "ythbabdjicplooaa", sum := "f9c89cb7f7f33850af307828e4e5673dd501996880688331237b70d7d02c73de", func := "deponent/deponentlaw4.WalTwo", spec := "walTwo", apart := false, narrowed := true }
def WalTwoUptoSaid : Prop := walTwoUptoRow.holds Try.pinned (OpenSpec.upto walTwoSpec)

/-- 'deponentlaw4.WalFull', WHERE WHAT IT READS IS OF BULK AT MOST 1048576: true; the input reads as it did. -/
def walFullUptoRow : OpenClaim := { program := "ythbabdjicplooaa", sum := "f9c89cb7f7f33850af307828e4e5673dd501996880688331237b70d7d02c73de", func := "deponent/deponentlaw4.WalFull", spec := "walFull", apart := false, narrowed := true }
def WalFullUptoSaid : Prop := walFullUptoRow.holds Try.pinned (OpenSpec.upto walFullSpec)

/-- 'deponentlaw4.WalNumbers', WHERE WHAT IT READS IS OF BULK AT MOST 1048576: true; the input reads as it did. -/
def walNumbersUptoRow : OpenClaim := { program := "ythbabdjicplooaa", sum := "f9c89cb7f7f33850af307828e4e5673dd501996880688331237b70d7d02c73de", func := "deponent/deponentlaw4.WalNumbers", spec := "walNumbers", apart := false, narrowed := true }
def WalNumbersUptoSaid : Prop := walNumbersUptoRow.holds Try.pinned (OpenSpec.upto walNumbersSpec)

/-- 'deponentlaw4.WalStops', WHERE WHAT IT READS IS OF BULK AT MOST 1048576: true; the input reads as it did. -/
def walStopsUptoRow : OpenClaim := { program := "ythbabdjicplooaa", sum := "f9c89cb7f7f33850af307828e4e5673dd501996880688331237b70d7d02c73de", func := "deponent/deponentlaw4.WalStops", spec := "walStops", apart := false, narrowed := true }
def WalStopsUptoSaid : Prop := walStopsUptoRow.holds Try.pinned (OpenSpec.upto walStopsSpec)

/-- 'deponentlaw4.WalKeeps', WHERE WHAT IT READS IS OF BULK AT MOST 1048576: true; the input reads as it did. -/
def walKeepsUptoRow : OpenClaim := { program := "ythbabdjicplooaa", sum := "f9c89cb7f7f33850af307828e4e5673dd501996880688331237b70d7d02c73de", func := "deponent/deponentlaw4.WalKeeps", spec := "walKeeps", apart := false, narrowed := true }
def WalKeepsUptoSaid : Prop := walKeepsUptoRow.holds Try.pinned (OpenSpec.upto walKeepsSpec)

/-- 'deponentlaw5.PagesNumbers', WHERE WHAT IT READS IS OF BULK AT MOST 1048576: true; the input reads as it did. -/
def pagesNumbersUptoRow : OpenClaim := { program := "ythbabdjicplooaa", sum := "f9c89cb7f7f33850af307828e4e5673dd501996880688331237b70d7d02c73de", func := "deponent/deponentlaw5.PagesNumbers", spec := "pagesNumbers", apart := false, narrowed := true }
def PagesNumbersUptoSaid : Prop := pagesNumbersUptoRow.holds Try.pinned (OpenSpec.upto pagesNumbersSpec)

/-- 'deponentlaw5.PagesKept', WHERE WHAT IT READS IS OF BULK AT MOST 1048576: true; the input reads as it did. -/
def pagesKeptUptoRow : OpenClaim := { program := "ythbabdjicplooaa", sum := "f9c89cb7f7f33850af307828e4e5673dd501996880688331237b70d7d02c73de", func := "deponent/deponentlaw5.PagesKept", spec := "pagesKept", apart := false, narrowed := true }
def PagesKeptUptoSaid : Prop := pagesKeptUptoRow.holds Try.pinned (OpenSpec.upto pagesKeptSpec)

/-- 'deponentlaw5.PagesMany', WHERE WHAT IT READS IS OF BULK AT MOST 1048576: true; the input reads as it did. -/
def pagesManyUptoRow : OpenClaim := { program := "ythbabdjicplooaa", sum := "f9c89cb7f7f33850af307828e4e5673dd501996880688331237b70d7d02c73de", func := "deponent/deponentlaw5.PagesMany", spec := "pagesMany", apart := false, narrowed := true }
def PagesManyUptoSaid : Prop := pagesManyUptoRow.holds Try.pinned (OpenSpec.upto pagesManySpec)

/-- 'deponentlaw5.PagesKeep', WHERE WHAT IT READS IS OF BULK AT MOST 1048576: true; the input reads as it did. -/
def pagesKeepUptoRow : OpenClaim := { program := "ythbabdjicplooaa", sum := "f9c89cb7f7f33850af307828e4e5673dd501996880688331237b70d7d02c73de", func := "deponent/deponentlaw5.PagesKeep", spec := "pagesKeep", apart := false, narrowed := true }
def PagesKeepUptoSaid : Prop := pagesKeepUptoRow.holds Try.pinned (OpenSpec.upto pagesKeepSpec)

/-- 'deponentlaw5.PagesStop', WHERE WHAT IT READS IS OF BULK AT MOST 1048576: true; the input reads as it did. -/
def pagesStopUptoRow : OpenClaim := { program := "ythbabdjicplooaa", sum := "f9c89cb7f7f33850af307828e4e5673dd501996880688331237b70d7d02c73de", func := "deponent/deponentlaw5.PagesStop", spec := "pagesStop", apart := false, narrowed := true }
def PagesStopUptoSaid : Prop := pagesStopUptoRow.holds Try.pinned (OpenSpec.upto pagesStopSpec)

end Rows
end Go.Proofs.Ythbabdjicplooaa
