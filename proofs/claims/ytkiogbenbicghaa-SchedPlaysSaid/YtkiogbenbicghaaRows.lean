/-
  No cell of these rows narrows 'for every input' (looked for: loops, veiled, ifaces, maps, wideKeys, modest, calm, conditions, laid).
  DERIVED. THE GIVEN ROWS OF THIS SEAT. 10 by the template 'for every input the law returns true; each argument reads behind the call as it read before'; 0 by the template 'total and deterministic' (their statements: YtkiogbenbicghaaTotals.lean).
  GIVEN WITH THE SEED: the statements are not yours to turn. If you find one false, say at which input.
  Laid BY PROGRAM, IN A SANDBOX (cutbox-rows.mjs): the forced cells as the released guide's own fill.sh prints them over the translation b98c9790d12bfd7f… (all of the seat's roots in one cut). By AI agents, Wed Nov 11 2026. No macro, syntax, notation, axiom, sorry.
-/
import Derived.Test.YtkiogbenbicghaaChecked
import GoSem.Claim
import GoSem.ClaimJoined
import GoSem.ClaimMapViews
import Derived.JoinedTies
import Derived.KernelRfl
namespace Go.Proofs.Ytkiogbenbicghaa
/- THE CELL 'sum', in the pinned program and in every row, IS THE sha256 OF THE DUMP (.gsa) THAT YtkiogbenbicghaaProg.lean LOADS. Nothing in Lean hashes anything: it is a label: what it is worth is what the hold of that sum in a sandbox is worth. -/
noncomputable def Try.pinned : Pinned := { name := "ytkiogbenbicghaa", sum := "b98c9790d12bfd7feadf40ce3510fb6c42ee576f1742b1c58d838896ae485814", checked := Try.checked }
namespace Rows
def none {H : Type} : Left H := { results := [], args := [] }

/-- 'parcloselaw07.FifoPlays': WHATEVER THE INPUT: true; the input reads as it did. -/
def fifoPlaysSpec : ChangeSpec := { name := "fifoPlays", fn := fun _ => fun
  | [d1, d2, d3] => { results := [.lit (.bool true)], args := [d1, d2, d3] }
  | _ => none }
def fifoPlaysRow : OpenClaim := { program := "ytkiogbenbicghaa", sum := "b98c9790d12bfd7feadf40ce3510fb6c42ee576f1742b1c58d838896ae485814", func := "parclose/parcloselaw07.FifoPlays", spec := "fifoPlays", unfollowed := true, recurses := true, apart := false }
def FifoPlaysSaid : Prop := fifoPlaysRow.holds Try.pinned (OpenSpec.ofChange fifoPlaysSpec)

/-- ITS FALSE NEIGHBOUR: 'it returns false'. Refute it at one input. -/
def fifoPlaysWrong : ChangeSpec := { name := "fifoPlays", fn := fun _ => fun
  | [d1, d2, d3] => { results := [.lit (.bool false)], args := [d1, d2, d3] }
  | _ => none }
def FifoPlaysWrongFalsely : Prop := fifoPlaysRow.holds Try.pinned (OpenSpec.ofChange fifoPlaysWrong)

/-- 'parcloselaw07.FifoOrder': WHATEVER THE INPUT: true; the input reads as it did. -/
def fifoOrderSpec : ChangeSpec := { name := "fifoOrder", fn := fun _ => fun
  | [d1, d2] => { results := [.lit (.bool true)], args := [d1, d2] }
  | _ => none }
def fifoOrderRow : OpenClaim := { program := "ytkiogbenbicghaa", sum := "b98c9790d12bfd7feadf40ce3510fb6c42ee576f1742b1c58d838896ae485814", func := "parclose/parcloselaw07.FifoOrder", spec := "fifoOrder", unfollowed := true, recurses := true, apart := false }
def FifoOrderSaid : Prop := fifoOrderRow.holds Try.pinned (OpenSpec.ofChange fifoOrderSpec)

/-- ITS FALSE NEIGHBOUR: 'it returns false'. Refute it at one input. -/
def fifoOrderWrong : ChangeSpec := { name := "fifoOrder", fn := fun _ => fun
  | [d1, d2] => { results := [.lit (.bool false)], args := [d1, d2] }
  | _ => none }
def FifoOrderWrongFalsely : Prop := fifoOrderRow.holds Try.pinned (OpenSpec.ofChange fifoOrderWrong)

/-- 'parcloselaw07.FifoOne': WHATEVER THE INPUT: true; the input reads as it did. -/
def fifoOneSpec : ChangeSpec := { name := "fifoOne", fn := fun _ => fun
  | [d] => { results := [.lit (.bool true)], args := [d] }
  | _ => none }
def fifoOneRow : OpenClaim := { program := "ytkiogbenbicghaa", sum := "b98c9790d12bfd7feadf40ce3510fb6c42ee576f1742b1c58d838896ae485814", func := "parclose/parcloselaw07.FifoOne", spec := "fifoOne", unfollowed := true, recurses := true, apart := false }
def FifoOneSaid : Prop := fifoOneRow.holds Try.pinned (OpenSpec.ofChange fifoOneSpec)

/-- ITS FALSE NEIGHBOUR: 'it returns false'. Refute it at one input. -/
def fifoOneWrong : ChangeSpec := { name := "fifoOne", fn := fun _ => fun
  | [d] => { results := [.lit (.bool false)], args := [d] }
  | _ => none }
def FifoOneWrongFalsely : Prop := fifoOneRow.holds Try.pinned (OpenSpec.ofChange fifoOneWrong)

/-- 'parcloselaw07.FifoMiddle': WHATEVER THE INPUT: true; the input reads as it did. -/
def fifoMiddleSpec : ChangeSpec := { name := "fifoMiddle", fn := fun _ => fun
  | [d1, d2] => { results := [.lit (.bool true)], args := [d1, d2] }
  | _ => none }
def fifoMiddleRow : OpenClaim := { program := "ytkiogbenbicghaa", sum := "b98c9790d12bfd7feadf40ce3510fb6c42ee576f1742b1c58d838896ae485814", func := "parclose/parcloselaw07.FifoMiddle", spec := "fifoMiddle", unfollowed := true, recurses := true, apart := false }
def FifoMiddleSaid : Prop := fifoMiddleRow.holds Try.pinned (OpenSpec.ofChange fifoMiddleSpec)

/-- ITS FALSE NEIGHBOUR: 'it returns false'. Refute it at one input. -/
def fifoMiddleWrong : ChangeSpec := { name := "fifoMiddle", fn := fun _ => fun
  | [d1, d2] => { results := [.lit (.bool false)], args := [d1, d2] }
  | _ => none }
def FifoMiddleWrongFalsely : Prop := fifoMiddleRow.holds Try.pinned (OpenSpec.ofChange fifoMiddleWrong)

/-- 'parcloselaw07.FifoNone': WHATEVER THE INPUT: true; the input reads as it did. -/
def fifoNoneSpec : ChangeSpec := { name := "fifoNone", fn := fun _ => fun
  | [d1, d2] => { results := [.lit (.bool true)], args := [d1, d2] }
  | _ => none }
def fifoNoneRow : OpenClaim := { program := "ytkiogbenbicghaa", sum := "b98c9790d12bfd7feadf40ce3510fb6c42ee576f1742b1c58d838896ae485814", func := "parclose/parcloselaw07.FifoNone", spec := "fifoNone", unfollowed := true, recurses := true, apart := false }
def FifoNoneSaid : Prop := fifoNoneRow.holds Try.pinned (OpenSpec.ofChange fifoNoneSpec)

/-- ITS FALSE NEIGHBOUR: 'it returns false'. Refute it at one input. -/
def fifoNoneWrong : ChangeSpec := { name := "fifoNone", fn := fun _ => fun
  | [d1, d2] => { results := [.lit (.bool false)], args := [d1, d2] }
  | _ => none }
def FifoNoneWrongFalsely : Prop := fifoNoneRow.holds Try.pinned (OpenSpec.ofChange fifoNoneWrong)

/-- 'parcloselaw09.SchedTurns': WHATEVER THE INPUT: true; the input reads as it did. -/
def schedTurnsSpec : ChangeSpec := { name := "schedTurns", fn := fun _ => fun
  | [d1, d2] => { results := [.lit (.bool true)], args := [d1, d2] }
  | _ => none }
def schedTurnsRow : OpenClaim := { program := "ytkiogbenbicghaa", sum := "b98c9790d12bfd7feadf40ce3510fb6c42ee576f1742b1c58d838896ae485814", func := "parclose/parcloselaw09.SchedTurns", spec := "schedTurns", unfollowed := true, recurses := true, apart := false }
def SchedTurnsSaid : Prop := schedTurnsRow.holds Try.pinned (OpenSpec.ofChange schedTurnsSpec)

/-- ITS FALSE NEIGHBOUR: 'it returns false'. Refute it at one input. -/
def schedTurnsWrong : ChangeSpec := { name := "schedTurns", fn := fun _ => fun
  | [d1, d2] => { results := [.lit (.bool false)], args := [d1, d2] }
  | _ => none }
def SchedTurnsWrongFalsely : Prop := schedTurnsRow.holds Try.pinned (OpenSpec.ofChange schedTurnsWrong)

/-- 'parcloselaw09.SchedWaits': WHATEVER THE INPUT: true; the input reads as it did. -/
def schedWaitsSpec : ChangeSpec := { name := "schedWaits", fn := fun _ => fun
  | [d1, d2, d3] => { results := [.lit (.bool true)], args := [d1, d2, d3] }
  | _ => none }
def schedWaitsRow : OpenClaim := { program := "ytkiogbenbicghaa", sum := "b98c9790d12bfd7feadf40ce3510fb6c42ee576f1742b1c58d838896ae485814", func := "parclose/parcloselaw09.SchedWaits", spec := "schedWaits", unfollowed := true, recurses := true, apart := false }
def SchedWaitsSaid : Prop := schedWaitsRow.holds Try.pinned (OpenSpec.ofChange schedWaitsSpec)

/-- ITS FALSE NEIGHBOUR: 'it returns false'. Refute it at one input. -/
def schedWaitsWrong : ChangeSpec := { name := "schedWaits", fn := fun _ => fun
  | [d1, d2, d3] => { results := [.lit (.bool false)], args := [d1, d2, d3] }
  | _ => none }
def SchedWaitsWrongFalsely : Prop := schedWaitsRow.holds Try.pinned (OpenSpec.ofChange schedWaitsWrong)

/-- 'parcloselaw09.SchedPlays': WHATEVER THE INPUT: true; the input reads as it did. -/
def schedPlaysSpec : ChangeSpec := { name := "schedPlays", fn := fun _ => fun
  | [d1, d2] => { results := [.lit (.bool true)], args := [d1, d2] }
  | _ => none }
def schedPlaysRow : OpenClaim := { program := "ytkiogbenbicghaa", sum := "b98c9790d12bfd7feadf40ce3510fb6c42ee576f1742b1c58d838896ae485814", func := "parclose/parcloselaw09.SchedPlays", spec := "schedPlays", unfollowed := true, recurses := true, apart := false }
def SchedPlaysSaid : Prop := schedPlaysRow.holds Try.pinned (OpenSpec.ofChange schedPlaysSpec)

/-- ITS FALSE NEIGHBOUR: 'it returns false'. Refute it at one input. -/
def schedPlaysWrong : ChangeSpec := { name := "schedPlays", fn := fun _ => fun
  | [d1, d2] => { results := [.lit (.bool false)], args := [d1, d2] }
  | _ => none }
def SchedPlaysWrongFalsely : Prop := schedPlaysRow.holds Try.pinned (OpenSpec.ofChange schedPlaysWrong)

/-- 'parcloselaw09.SchedRuns': WHATEVER THE INPUT: true; the input reads as it did. -/
def schedRunsSpec : ChangeSpec := { name := "schedRuns", fn := fun _ => fun
  | [d1, d2] => { results := [.lit (.bool true)], args := [d1, d2] }
  | _ => none }
def schedRunsRow : OpenClaim := { program := "ytkiogbenbicghaa", sum := "b98c9790d12bfd7feadf40ce3510fb6c42ee576f1742b1c58d838896ae485814", func := "parclose/parcloselaw09.SchedRuns", spec := "schedRuns", unfollowed := true, recurses := true, apart := false }
def SchedRunsSaid : Prop := schedRunsRow.holds Try.pinned (OpenSpec.ofChange schedRunsSpec)

/-- ITS FALSE NEIGHBOUR: 'it returns false'. Refute it at one input. -/
def schedRunsWrong : ChangeSpec := { name := "schedRuns", fn := fun _ => fun
  | [d1, d2] => { results := [.lit (.bool false)], args := [d1, d2] }
  | _ => none }
def SchedRunsWrongFalsely : Prop := schedRunsRow.holds Try.pinned (OpenSpec.ofChange schedRunsWrong)

/-- 'parcloselaw09.SchedNone': WHATEVER THE INPUT: true; the input reads as it did. -/
def schedNoneSpec : ChangeSpec := { name := "schedNone", fn := fun _ => fun
  | [d] => { results := [.lit (.bool true)], args := [d] }
  | _ => none }
def schedNoneRow : OpenClaim := { program := "ytkiogbenbicghaa", sum := "b98c9790d12bfd7feadf40ce3510fb6c42ee576f1742b1c58d838896ae485814", func := "parclose/parcloselaw09.SchedNone", spec := "schedNone", unfollowed := true, recurses := true, apart := false }
def SchedNoneSaid : Prop := schedNoneRow.holds Try.pinned (OpenSpec.ofChange schedNoneSpec)

/-- ITS FALSE NEIGHBOUR: 'it returns false'. Refute it at one input. -/
def schedNoneWrong : ChangeSpec := { name := "schedNone", fn := fun _ => fun
  | [d] => { results := [.lit (.bool false)], args := [d] }
  | _ => none }
def SchedNoneWrongFalsely : Prop := schedNoneRow.holds Try.pinned (OpenSpec.ofChange schedNoneWrong)

/- THE SECOND FORM. 'bulk': how many values and letters a reading holds, each counted each time it is reached (what is shared counts as often as it is met; a slice's spare places count too). A statement '..UptoSaid' is the law's where the arguments, and the package variables that the reading takes, are together of bulk at most 1048576: NARROWER than '..Said'. Prove '..Said' where nothing that the law and all that it calls make is longer than what came in: it says more and counts as full. Else prove '..UptoSaid'. A law counts once. -/
mutual
def uptoBulk {H : Type} : DataW H → Nat
  | .lit (.string bytes) => bytes.length + 1
  | .lit _ => 1
  | .nil => 1
  | .ptr d => uptoBulk d + 1
  | .slice elems spare => uptoBulkAll elems + uptoBulkAll spare + 1
  | .agg parts => uptoBulkAll parts + 1
  | .iface _ d => uptoBulk d + 1
  | .map entries => uptoBulkEntries entries + 1
  | .held _ => 1
def uptoBulkAll {H : Type} : List (DataW H) → Nat
  | [] => 0
  | d :: r => uptoBulk d + uptoBulkAll r
def uptoBulkEntries {H : Type} : List (Lit × DataW H) → Nat
  | [] => 0
  | x :: r => uptoBulkEntry x + uptoBulkEntries r
def uptoBulkEntry {H : Type} : Lit × DataW H → Nat
  | (.string bytes, d) => bytes.length + uptoBulk d + 1
  | (_, d) => uptoBulk d + 1
 end
def uptoSmall : (H : Type) → List (DataW H) → Bool := fun _ ds => decide (uptoBulkAll ds ≤ 1048576)
def OpenSpec.upto (s : _root_.Go.ChangeSpec) : _root_.Go.OpenSpec := { _root_.Go.OpenSpec.ofChange s with cond := some uptoSmall }

/-- 'parcloselaw07.FifoPlays', WHERE WHAT IT READS IS OF BULK AT MOST 1048576: true; the input reads as it did. -/
def fifoPlaysUptoRow : OpenClaim := { program := "ytkiogbenbicghaa", sum := "b98c9790d12bfd7feadf40ce3510fb6c42ee576f1742b1c58d838896ae485814", func := "parclose/parcloselaw07.FifoPlays", spec := "fifoPlays", unfollowed := true, recurses := true, apart := false, narrowed := true }
def FifoPlaysUptoSaid : Prop := fifoPlaysUptoRow.holds Try.pinned (OpenSpec.upto fifoPlaysSpec)

/-- 'parcloselaw07.FifoOrder', WHERE WHAT IT READS IS OF BULK AT MOST 1048576: true; the input reads as it did. -/
def fifoOrderUptoRow : OpenClaim := { program := "ytkiogbenbicghaa", sum := "b98c9790d12bfd7feadf40ce3510fb6c42ee576f1742b1c58d838896ae485814", func := "parclose/parcloselaw07.FifoOrder", spec := "fifoOrder", unfollowed := true, recurses := true, apart := false, narrowed := true }
def FifoOrderUptoSaid : Prop := fifoOrderUptoRow.holds Try.pinned (OpenSpec.upto fifoOrderSpec)

/-- 'parcloselaw07.FifoOne', WHERE WHAT IT READS IS OF BULK AT MOST 1048576: true; the input reads as it did. -/
def fifoOneUptoRow : OpenClaim := { program := "ytkiogbenbicghaa", sum := "b98c9790d12bfd7feadf40ce3510fb6c42ee576f1742b1c58d838896ae485814", func := "parclose/parcloselaw07.FifoOne", spec := "fifoOne", unfollowed := true, recurses := true, apart := false, narrowed := true }
def FifoOneUptoSaid : Prop := fifoOneUptoRow.holds Try.pinned (OpenSpec.upto fifoOneSpec)

/-- 'parcloselaw07.FifoMiddle', WHERE WHAT IT READS IS OF BULK AT MOST 1048576: true; the input reads as it did. -/
def fifoMiddleUptoRow : OpenClaim := { program := "ytkiogbenbicghaa", sum := "b98c9790d12bfd7feadf40ce3510fb6c42ee576f1742b1c58d838896ae485814", func := "parclose/parcloselaw07.FifoMiddle", spec := "fifoMiddle", unfollowed := true, recurses := true, apart := false, narrowed := true }
def FifoMiddleUptoSaid : Prop := fifoMiddleUptoRow.holds Try.pinned (OpenSpec.upto fifoMiddleSpec)

/-- 'parcloselaw07.FifoNone', WHERE WHAT IT READS IS OF BULK AT MOST 1048576: true; the input reads as it did. -/
def fifoNoneUptoRow : OpenClaim := { program := "ytkiogbenbicghaa", sum := "b98c9790d12bfd7feadf40ce3510fb6c42ee576f1742b1c58d838896ae485814", func := "parclose/parcloselaw07.FifoNone", spec := "fifoNone", unfollowed := true, recurses := true, apart := false, narrowed := true }
def FifoNoneUptoSaid : Prop := fifoNoneUptoRow.holds Try.pinned (OpenSpec.upto fifoNoneSpec)

/-- 'parcloselaw09.SchedTurns', WHERE WHAT IT READS IS OF BULK AT MOST 1048576: true; the input reads as it did. -/
def schedTurnsUptoRow : OpenClaim := { program := "ytkiogbenbicghaa", sum := "b98c9790d12bfd7feadf40ce3510fb6c42ee576f1742b1c58d838896ae485814", func := "parclose/parcloselaw09.SchedTurns", spec := "schedTurns", unfollowed := true, recurses := true, apart := false, narrowed := true }
def SchedTurnsUptoSaid : Prop := schedTurnsUptoRow.holds Try.pinned (OpenSpec.upto schedTurnsSpec)

/-- 'parcloselaw09.SchedWaits', WHERE WHAT IT READS IS OF BULK AT MOST 1048576: true; the input reads as it did. -/
def schedWaitsUptoRow : OpenClaim := { program := "ytkiogbenbicghaa", sum := "b98c9790d12bfd7feadf40ce3510fb6c42ee576f1742b1c58d838896ae485814", func := "parclose/parcloselaw09.SchedWaits", spec := "schedWaits", unfollowed := true, recurses := true, apart := false, narrowed := true }
def SchedWaitsUptoSaid : Prop := schedWaitsUptoRow.holds Try.pinned (OpenSpec.upto schedWaitsSpec)

/-- 'parcloselaw09.SchedPlays', WHERE WHAT IT READS IS OF BULK AT MOST 1048576: true; the input reads as it did. -/
def schedPlaysUptoRow : OpenClaim := { program := "ytkiogbenbicghaa", sum := "b98c9790d12bfd7feadf40ce3510fb6c42ee576f1742b1c58d838896ae485814", func := "parclose/parcloselaw09.SchedPlays", spec := "schedPlays", unfollowed := true, recurses := true, apart := false, narrowed := true }
def SchedPlaysUptoSaid : Prop := schedPlaysUptoRow.holds Try.pinned (OpenSpec.upto schedPlaysSpec)

/-- 'parcloselaw09.SchedRuns', WHERE WHAT IT READS IS OF BULK AT MOST 1048576: true; the input reads as it did. -/
def schedRunsUptoRow : OpenClaim := { program := "ytkiogbenbicghaa", sum := "b98c9790d12bfd7feadf40ce3510fb6c42ee576f1742b1c58d838896ae485814", func := "parclose/parcloselaw09.SchedRuns", spec := "schedRuns", unfollowed := true, recurses := true, apart := false, narrowed := true }
def SchedRunsUptoSaid : Prop := schedRunsUptoRow.holds Try.pinned (OpenSpec.upto schedRunsSpec)

/-- 'parcloselaw09.SchedNone', WHERE WHAT IT READS IS OF BULK AT MOST 1048576: true; the input reads as it did. -/
def schedNoneUptoRow : OpenClaim := { program := "ytkiogbenbicghaa", sum := "b98c9790d12bfd7feadf40ce3510fb6c42ee576f1742b1c58d838896ae485814", func := "parclose/parcloselaw09.SchedNone", spec := "schedNone", unfollowed := true, recurses := true, apart := false, narrowed := true }
def SchedNoneUptoSaid : Prop := schedNoneUptoRow.holds Try.pinned (OpenSpec.upto schedNoneSpec)

end Rows
end Go.Proofs.Ytkiogbenbicghaa
