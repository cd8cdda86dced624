/-
  No cell of these rows narrows 'for every input' (looked for: loops, veiled, ifaces, maps, wideKeys, modest, calm, conditions, laid).
  DERIVED. THE GIVEN ROWS OF THIS SEAT. 5 by the template 'for every input the law returns true; each argument reads behind the call as it read before'; 0 by the template 'total and deterministic' (their statements: YtajhfjgndkdbnaaTotals.lean).
  GIVEN WITH THE SEED: the statements are not yours to turn. If you find one false, say at which input.
  Laid BY PROGRAM, IN A SANDBOX (cutbox-rows.mjs): the forced cells as the released guide's own fill.sh prints them over the translation b764a8c897fe0a2c… (all of the seat's roots in one cut). By AI agents, Wed Nov 11 2026. No macro, syntax, notation, axiom, sorry.
-/
import Derived.Test.YtajhfjgndkdbnaaChecked
import GoSem.Claim
import GoSem.ClaimJoined
import GoSem.ClaimMapViews
import Derived.JoinedTies
import Derived.KernelRfl
namespace Go.Proofs.Ytajhfjgndkdbnaa
/- THE CELL 'sum', in the pinned program and in every row, IS THE sha256 OF THE DUMP (.gsa) THAT YtajhfjgndkdbnaaProg.lean LOADS. Nothing in Lean hashes anything: it is a label: what it is worth is what the hold of that sum in a sandbox is worth. -/
noncomputable def Try.pinned : Pinned := { name := "ytajhfjgndkdbnaa", sum := "b764a8c897fe0a2c0b2f3dcca7d5db43dc75a7eb2977edbef798f946a6b90763", checked := Try.checked }
namespace Rows
def none {H : Type} : Left H := { results := [], args := [] }

/-- 'parcloselaw08.WheelOrder': WHATEVER THE INPUT: true; the input reads as it did. -/
def wheelOrderSpec : ChangeSpec := { name := "wheelOrder", fn := fun _ => fun
  | [d1, d2] => { results := [.lit (.bool true)], args := [d1, d2] }
  | _ => none }
def wheelOrderRow : OpenClaim := { program := "ytajhfjgndkdbnaa", sum := "b764a8c897fe0a2c0b2f3dcca7d5db43dc75a7eb2977edbef798f946a6b90763", func := "parclose/parcloselaw08.WheelOrder", spec := "wheelOrder", unfollowed := true, recurses := true, apart := false }
def WheelOrderSaid : Prop := wheelOrderRow.holds Try.pinned (OpenSpec.ofChange wheelOrderSpec)

/-- ITS FALSE NEIGHBOUR: 'it returns false'. Refute it at one input. -/
def wheelOrderWrong : ChangeSpec := { name := "wheelOrder", fn := fun _ => fun
  | [d1, d2] => { results := [.lit (.bool false)], args := [d1, d2] }
  | _ => none }
def WheelOrderWrongFalsely : Prop := wheelOrderRow.holds Try.pinned (OpenSpec.ofChange wheelOrderWrong)

/-- 'parcloselaw08.WheelStops': WHATEVER THE INPUT: true; the input reads as it did. -/
def wheelStopsSpec : ChangeSpec := { name := "wheelStops", fn := fun _ => fun
  | [d1, d2, d3, d4] => { results := [.lit (.bool true)], args := [d1, d2, d3, d4] }
  | _ => none }
def wheelStopsRow : OpenClaim := { program := "ytajhfjgndkdbnaa", sum := "b764a8c897fe0a2c0b2f3dcca7d5db43dc75a7eb2977edbef798f946a6b90763", func := "parclose/parcloselaw08.WheelStops", spec := "wheelStops", unfollowed := true, recurses := true, apart := false }
def WheelStopsSaid : Prop := wheelStopsRow.holds Try.pinned (OpenSpec.ofChange wheelStopsSpec)

/-- ITS FALSE NEIGHBOUR: 'it returns false'. Refute it at one input. -/
def wheelStopsWrong : ChangeSpec := { name := "wheelStops", fn := fun _ => fun
  | [d1, d2, d3, d4] => { results := [.lit (.bool false)], args := [d1, d2, d3, d4] }
  | _ => none }
def WheelStopsWrongFalsely : Prop := wheelStopsRow.holds Try.pinned (OpenSpec.ofChange wheelStopsWrong)

/-- 'parcloselaw08.WheelPlays': WHATEVER THE INPUT: true; the input reads as it did. -/
def wheelPlaysSpec : ChangeSpec := { name := "wheelPlays", fn := fun _ => fun
  | [d1, d2] => { results := [.lit (.bool true)], args := [d1, d2] }
  | _ => none }
def wheelPlaysRow : OpenClaim := { program := "ytajhfjgndkdbnaa", sum := "b764a8c897fe0a2c0b2f3dcca7d5db43dc75a7eb2977edbef798f946a6b90763", func := "parclose/parcloselaw08.WheelPlays", spec := "wheelPlays", unfollowed := true, recurses := true, apart := false }
def WheelPlaysSaid : Prop := wheelPlaysRow.holds Try.pinned (OpenSpec.ofChange wheelPlaysSpec)

/-- ITS FALSE NEIGHBOUR: 'it returns false'. Refute it at one input. -/
def wheelPlaysWrong : ChangeSpec := { name := "wheelPlays", fn := fun _ => fun
  | [d1, d2] => { results := [.lit (.bool false)], args := [d1, d2] }
  | _ => none }
def WheelPlaysWrongFalsely : Prop := wheelPlaysRow.holds Try.pinned (OpenSpec.ofChange wheelPlaysWrong)

/-- 'parcloselaw08.WheelOnce': WHATEVER THE INPUT: true; the input reads as it did. -/
def wheelOnceSpec : ChangeSpec := { name := "wheelOnce", fn := fun _ => fun
  | [d1, d2] => { results := [.lit (.bool true)], args := [d1, d2] }
  | _ => none }
def wheelOnceRow : OpenClaim := { program := "ytajhfjgndkdbnaa", sum := "b764a8c897fe0a2c0b2f3dcca7d5db43dc75a7eb2977edbef798f946a6b90763", func := "parclose/parcloselaw08.WheelOnce", spec := "wheelOnce", unfollowed := true, recurses := true, apart := false }
def WheelOnceSaid : Prop := wheelOnceRow.holds Try.pinned (OpenSpec.ofChange wheelOnceSpec)

/-- ITS FALSE NEIGHBOUR: 'it returns false'. Refute it at one input. -/
def wheelOnceWrong : ChangeSpec := { name := "wheelOnce", fn := fun _ => fun
  | [d1, d2] => { results := [.lit (.bool false)], args := [d1, d2] }
  | _ => none }
def WheelOnceWrongFalsely : Prop := wheelOnceRow.holds Try.pinned (OpenSpec.ofChange wheelOnceWrong)

/-- 'parcloselaw08.WheelNone': WHATEVER THE INPUT: true; the input reads as it did. -/
def wheelNoneSpec : ChangeSpec := { name := "wheelNone", fn := fun _ => fun
  | [d1, d2] => { results := [.lit (.bool true)], args := [d1, d2] }
  | _ => none }
def wheelNoneRow : OpenClaim := { program := "ytajhfjgndkdbnaa", sum := "b764a8c897fe0a2c0b2f3dcca7d5db43dc75a7eb2977edbef798f946a6b90763", func := "parclose/parcloselaw08.WheelNone", spec := "wheelNone", unfollowed := true, recurses := true, apart := false }
def WheelNoneSaid : Prop := wheelNoneRow.holds Try.pinned (OpenSpec.ofChange wheelNoneSpec)

/-- ITS FALSE NEIGHBOUR: 'it returns false'. Refute it at one input. -/
def wheelNoneWrong : ChangeSpec := { name := "wheelNone", fn := fun _ => fun
  | [d1, d2] => { results := [.lit (.bool false)], args := [d1, d2] }
  | _ => none }
def WheelNoneWrongFalsely : Prop := wheelNoneRow.holds Try.pinned (OpenSpec.ofChange wheelNoneWrong)

/- THE SECOND FORM. 'bulk': how many values and letters a reading holds, each counted each time it is reached (what is shared counts as often as it is met; a slice's spare places count too). A statement '..UptoSaid' is the law's where the arguments, and the package variables that the reading takes, are together of bulk at most 1048576: NARROWER than '..Said'. Prove '..Said' where nothing that the law and all that it calls make is longer than what came in: it says more and counts as full. Else prove '..UptoSaid'. A law counts once. -/
mutual
def uptoBulk {H : Type} : DataW H → Nat
  | .lit (.string bytes) => bytes.length + 1
  | .lit _ => 1
  | .nil => 1
  | .ptr d => uptoBulk d + 1
  | .slice elems spare => uptoBulkAll elems + uptoBulkAll spare + 1
  | .agg parts => uptoBulkAll parts + 1
  | .iface _ d => uptoBulk d + 1
  | .map entries => uptoBulkEntries entries + 1
  | .held _ => 1
def uptoBulkAll {H : Type} : List (DataW H) → Nat
  | [] => 0
  | d :: r => uptoBulk d + uptoBulkAll r
def uptoBulkEntries {H : Type} : List (Lit × DataW H) → Nat
  | [] => 0
  | x :: r => uptoBulkEntry x + uptoBulkEntries r
def uptoBulkEntry {H : Type} : Lit × DataW H → Nat
  | (.string bytes, d) => bytes.length + uptoBulk d + 1
  | (_, d) => uptoBulk d + 1
 end
def uptoSmall : (H : Type) → List (DataW H) → Bool := fun _ ds => decide (uptoBulkAll ds ≤ 1048576)
def OpenSpec.upto (s : _root_.Go.ChangeSpec) : _root_.Go.OpenSpec := { _root_.Go.OpenSpec.ofChange s with cond := some uptoSmall }

/-- 'parcloselaw08.WheelOrder', WHERE WHAT IT READS IS OF BULK AT MOST 1048576: true; the input reads as it did. -/
def wheelOrderUptoRow : OpenClaim := { program := "ytajhfjgndkdbnaa", sum := "b764a8c897fe0a2c0b2f3dcca7d5db43dc75a7eb2977edbef798f946a6b90763", func := "parclose/parcloselaw08.WheelOrder", spec := "wheelOrder", unfollowed := true, recurses := true, apart := false, narrowed := true }
def WheelOrderUptoSaid : Prop := wheelOrderUptoRow.holds Try.pinned (OpenSpec.upto wheelOrderSpec)

/-- 'parcloselaw08.WheelStops', WHERE WHAT IT READS IS OF BULK AT MOST 1048576: true; the input reads as it did. -/
def wheelStopsUptoRow : OpenClaim := { program := "ytajhfjgndkdbnaa", sum := "b764a8c897fe0a2c0b2f3dcca7d5db43dc75a7eb2977edbef798f946a6b90763", func := "parclose/parcloselaw08.WheelStops", spec := "wheelStops", unfollowed := true, recurses := true, apart := false, narrowed := true }
def WheelStopsUptoSaid : Prop := wheelStopsUptoRow.holds Try.pinned (OpenSpec.upto wheelStopsSpec)

/-- 'parcloselaw08.WheelPlays', WHERE WHAT IT READS IS OF BULK AT MOST 1048576: true; the input reads as it did. -/
def wheelPlaysUptoRow : OpenClaim := { program := "ytajhfjgndkdbnaa", sum := "b764a8c897fe0a2c0b2f3dcca7d5db43dc75a7eb2977edbef798f946a6b90763", func := "parclose/parcloselaw08.WheelPlays", spec := "wheelPlays", unfollowed := true, recurses := true, apart := false, narrowed := true }
def WheelPlaysUptoSaid : Prop := wheelPlaysUptoRow.holds Try.pinned (OpenSpec.upto wheelPlaysSpec)

/-- 'parcloselaw08.WheelOnce', WHERE WHAT IT READS IS OF BULK AT MOST 1048576: true; the input reads as it did. -/
def wheelOnceUptoRow : OpenClaim := { program := "ytajhfjgndkdbnaa", sum := "b764a8c897fe0a2c0b2f3dcca7d5db43dc75a7eb2977edbef798f946a6b90763", func := "parclose/parcloselaw08.WheelOnce", spec := "wheelOnce", unfollowed := true, recurses := true, apart := false, narrowed := true }
def WheelOnceUptoSaid : Prop := wheelOnceUptoRow.holds Try.pinned (OpenSpec.upto wheelOnceSpec)

/-- 'parcloselaw08.WheelNone', WHERE WHAT IT READS IS OF BULK AT MOST 1048576: true; the input reads as it did. -/
def wheelNoneUptoRow : OpenClaim := { program := "ytajhfjgndkdbnaa", sum := "b764a8c897fe0a2c0b2f3dcca7d5db43dc75a7eb2977edbef798f946a6b90763", func := "parclose/parcloselaw08.WheelNone", spec := "wheelNone", unfollowed := true, recurses := true, apart := false, narrowed := true }
def WheelNoneUptoSaid : Prop := wheelNoneUptoRow.holds Try.pinned (OpenSpec.upto wheelNoneSpec)

end Rows
end Go.Proofs.Ytajhfjgndkdbnaa
