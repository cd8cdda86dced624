/-
  No cell of these rows narrows 'for every input' (looked for: loops, veiled, ifaces, maps, wideKeys, modest, calm, conditions, laid).
  DERIVED. THE GIVEN ROWS OF THIS SEAT. 10 by the template 'for every input the law returns true; each argument reads behind the call as it read before'; 0 by the template 'total and deterministic' (their statements: YtbmkioaomjnggaaTotals.lean).
  GIVEN WITH THE SEED: the statements are not yours to turn. If you find one false, say at which input.
  Laid BY PROGRAM, IN A SANDBOX (cutbox-rows.mjs): the forced cells as the released guide's own fill.sh prints them over the translation 332a7f427d4ef8d9… (all of the seat's roots in one cut). By AI agents, Wed Nov 11 2026. No macro, syntax, notation, axiom, sorry.
-/
import Derived.Test.YtbmkioaomjnggaaChecked
import GoSem.Claim
import GoSem.ClaimJoined
import GoSem.ClaimMapViews
import Derived.JoinedTies
import Derived.KernelRfl
namespace Go.Proofs.Ytbmkioaomjnggaa
/- THE CELL 'sum', in the pinned program and in every row, IS THE sha256 OF THE DUMP (.gsa) THAT YtbmkioaomjnggaaProg.lean LOADS. Nothing in Lean hashes anything: it is a label: what it is worth is what the hold of that sum in a sandbox is worth. -/
noncomputable def Try.pinned : Pinned := { name := "ytbmkioaomjnggaa", sum := "332a7f427d4ef8d9f9498d513f57e7fe1782ad1102fe32644ed3abae60fd188a", checked := Try.checked }
namespace Rows
def none {H : Type} : Left H := { results := [], args := [] }

/-- 'parcloselaw06.ArenaPlays': WHATEVER THE INPUT: true; the input reads as it did. -/
def arenaPlaysSpec : ChangeSpec := { name := "arenaPlays", fn := fun _ => fun
  | [d1, d2] => { results := [.lit (.bool true)], args := [d1, d2] }
  | _ => none }
def arenaPlaysRow : OpenClaim := { program := "ytbmkioaomjnggaa", sum := "332a7f427d4ef8d9f9498d513f57e7fe1782ad1102fe32644ed3abae60fd188a", func := "parclose/parcloselaw06.ArenaPlays", spec := "arenaPlays", apart := false }
def ArenaPlaysSaid : Prop := arenaPlaysRow.holds Try.pinned (OpenSpec.ofChange arenaPlaysSpec)

/-- ITS FALSE NEIGHBOUR: 'it returns false'. Refute it at one input. -/
def arenaPlaysWrong : ChangeSpec := { name := "arenaPlays", fn := fun _ => fun
  | [d1, d2] => { results := [.lit (.bool false)], args := [d1, d2] }
  | _ => none }
def ArenaPlaysWrongFalsely : Prop := arenaPlaysRow.holds Try.pinned (OpenSpec.ofChange arenaPlaysWrong)

/-- 'parcloselaw06.ArenaStale': WHATEVER THE INPUT: true; the input reads as it did. -/
def arenaStaleSpec : ChangeSpec := { name := "arenaStale", fn := fun _ => fun
  | [d1, d2] => { results := [.lit (.bool true)], args := [d1, d2] }
  | _ => none }
def arenaStaleRow : OpenClaim := { program := "ytbmkioaomjnggaa", sum := "332a7f427d4ef8d9f9498d513f57e7fe1782ad1102fe32644ed3abae60fd188a", func := "parclose/parcloselaw06.ArenaStale", spec := "arenaStale", apart := false }
def ArenaStaleSaid : Prop := arenaStaleRow.holds Try.pinned (OpenSpec.ofChange arenaStaleSpec)

/-- ITS FALSE NEIGHBOUR: 'it returns false'. Refute it at one input. -/
def arenaStaleWrong : ChangeSpec := { name := "arenaStale", fn := fun _ => fun
  | [d1, d2] => { results := [.lit (.bool false)], args := [d1, d2] }
  | _ => none }
def ArenaStaleWrongFalsely : Prop := arenaStaleRow.holds Try.pinned (OpenSpec.ofChange arenaStaleWrong)

/-- 'parcloselaw06.ArenaWorn': WHATEVER THE INPUT: true; the input reads as it did. -/
def arenaWornSpec : ChangeSpec := { name := "arenaWorn", fn := fun _ => fun
  | [d] => { results := [.lit (.bool true)], args := [d] }
  | _ => none }
def arenaWornRow : OpenClaim := { program := "ytbmkioaomjnggaa", sum := "332a7f427d4ef8d9f9498d513f57e7fe1782ad1102fe32644ed3abae60fd188a", func := "parclose/parcloselaw06.ArenaWorn", spec := "arenaWorn", apart := false }
def ArenaWornSaid : Prop := arenaWornRow.holds Try.pinned (OpenSpec.ofChange arenaWornSpec)

/-- ITS FALSE NEIGHBOUR: 'it returns false'. Refute it at one input. -/
def arenaWornWrong : ChangeSpec := { name := "arenaWorn", fn := fun _ => fun
  | [d] => { results := [.lit (.bool false)], args := [d] }
  | _ => none }
def ArenaWornWrongFalsely : Prop := arenaWornRow.holds Try.pinned (OpenSpec.ofChange arenaWornWrong)

/-- 'parcloselaw06.ArenaNone': WHATEVER THE INPUT: true; the input reads as it did. -/
def arenaNoneSpec : ChangeSpec := { name := "arenaNone", fn := fun _ => fun
  | [d1, d2] => { results := [.lit (.bool true)], args := [d1, d2] }
  | _ => none }
def arenaNoneRow : OpenClaim := { program := "ytbmkioaomjnggaa", sum := "332a7f427d4ef8d9f9498d513f57e7fe1782ad1102fe32644ed3abae60fd188a", func := "parclose/parcloselaw06.ArenaNone", spec := "arenaNone", apart := false }
def ArenaNoneSaid : Prop := arenaNoneRow.holds Try.pinned (OpenSpec.ofChange arenaNoneSpec)

/-- ITS FALSE NEIGHBOUR: 'it returns false'. Refute it at one input. -/
def arenaNoneWrong : ChangeSpec := { name := "arenaNone", fn := fun _ => fun
  | [d1, d2] => { results := [.lit (.bool false)], args := [d1, d2] }
  | _ => none }
def ArenaNoneWrongFalsely : Prop := arenaNoneRow.holds Try.pinned (OpenSpec.ofChange arenaNoneWrong)

/-- 'parcloselaw02.SignReads': WHATEVER THE INPUT: true; the input reads as it did. -/
def signReadsSpec : ChangeSpec := { name := "signReads", fn := fun _ => fun
  | [d] => { results := [.lit (.bool true)], args := [d] }
  | _ => none }
def signReadsRow : OpenClaim := { program := "ytbmkioaomjnggaa", sum := "332a7f427d4ef8d9f9498d513f57e7fe1782ad1102fe32644ed3abae60fd188a", func := "parclose/parcloselaw02.SignReads", spec := "signReads", inPlace := ["internal/abi.NoEscape"], apart := false }
def SignReadsSaid : Prop := signReadsRow.holds Try.pinned (OpenSpec.ofChange signReadsSpec)

/-- ITS FALSE NEIGHBOUR: 'it returns false'. Refute it at one input. -/
def signReadsWrong : ChangeSpec := { name := "signReads", fn := fun _ => fun
  | [d] => { results := [.lit (.bool false)], args := [d] }
  | _ => none }
def SignReadsWrongFalsely : Prop := signReadsRow.holds Try.pinned (OpenSpec.ofChange signReadsWrong)

/-- 'parcloselaw02.SignPrints': WHATEVER THE INPUT: true; the input reads as it did. -/
def signPrintsSpec : ChangeSpec := { name := "signPrints", fn := fun _ => fun
  | [d] => { results := [.lit (.bool true)], args := [d] }
  | _ => none }
def signPrintsRow : OpenClaim := { program := "ytbmkioaomjnggaa", sum := "332a7f427d4ef8d9f9498d513f57e7fe1782ad1102fe32644ed3abae60fd188a", func := "parclose/parcloselaw02.SignPrints", spec := "signPrints", inPlace := ["internal/abi.NoEscape"], apart := false }
def SignPrintsSaid : Prop := signPrintsRow.holds Try.pinned (OpenSpec.ofChange signPrintsSpec)

/-- ITS FALSE NEIGHBOUR: 'it returns false'. Refute it at one input. -/
def signPrintsWrong : ChangeSpec := { name := "signPrints", fn := fun _ => fun
  | [d] => { results := [.lit (.bool false)], args := [d] }
  | _ => none }
def SignPrintsWrongFalsely : Prop := signPrintsRow.holds Try.pinned (OpenSpec.ofChange signPrintsWrong)

/-- 'parcloselaw02.SignBack': WHATEVER THE INPUT: true; the input reads as it did. -/
def signBackSpec : ChangeSpec := { name := "signBack", fn := fun _ => fun
  | [d1, d2] => { results := [.lit (.bool true)], args := [d1, d2] }
  | _ => none }
def signBackRow : OpenClaim := { program := "ytbmkioaomjnggaa", sum := "332a7f427d4ef8d9f9498d513f57e7fe1782ad1102fe32644ed3abae60fd188a", func := "parclose/parcloselaw02.SignBack", spec := "signBack", inPlace := ["internal/abi.NoEscape"], apart := false }
def SignBackSaid : Prop := signBackRow.holds Try.pinned (OpenSpec.ofChange signBackSpec)

/-- ITS FALSE NEIGHBOUR: 'it returns false'. Refute it at one input. -/
def signBackWrong : ChangeSpec := { name := "signBack", fn := fun _ => fun
  | [d1, d2] => { results := [.lit (.bool false)], args := [d1, d2] }
  | _ => none }
def SignBackWrongFalsely : Prop := signBackRow.holds Try.pinned (OpenSpec.ofChange signBackWrong)

/-- 'parcloselaw02.SignUnlike': WHATEVER THE INPUT: true; the input reads as it did. -/
def signUnlikeSpec : ChangeSpec := { name := "signUnlike", fn := fun _ => fun
  | [d1, d2] => { results := [.lit (.bool true)], args := [d1, d2] }
  | _ => none }
def signUnlikeRow : OpenClaim := { program := "ytbmkioaomjnggaa", sum := "332a7f427d4ef8d9f9498d513f57e7fe1782ad1102fe32644ed3abae60fd188a", func := "parclose/parcloselaw02.SignUnlike", spec := "signUnlike", inPlace := ["internal/abi.NoEscape"], apart := false }
def SignUnlikeSaid : Prop := signUnlikeRow.holds Try.pinned (OpenSpec.ofChange signUnlikeSpec)

/-- ITS FALSE NEIGHBOUR: 'it returns false'. Refute it at one input. -/
def signUnlikeWrong : ChangeSpec := { name := "signUnlike", fn := fun _ => fun
  | [d1, d2] => { results := [.lit (.bool false)], args := [d1, d2] }
  | _ => none }
def SignUnlikeWrongFalsely : Prop := signUnlikeRow.holds Try.pinned (OpenSpec.ofChange signUnlikeWrong)

/-- 'parcloselaw02.SignNames': WHATEVER THE INPUT: true; the input reads as it did. -/
def signNamesSpec : ChangeSpec := { name := "signNames", fn := fun _ => fun
  | [d] => { results := [.lit (.bool true)], args := [d] }
  | _ => none }
def signNamesRow : OpenClaim := { program := "ytbmkioaomjnggaa", sum := "332a7f427d4ef8d9f9498d513f57e7fe1782ad1102fe32644ed3abae60fd188a", func := "parclose/parcloselaw02.SignNames", spec := "signNames", inPlace := ["internal/abi.NoEscape"], apart := false }
def SignNamesSaid : Prop := signNamesRow.holds Try.pinned (OpenSpec.ofChange signNamesSpec)

/-- ITS FALSE NEIGHBOUR: 'it returns false'. Refute it at one input. -/
def signNamesWrong : ChangeSpec := { name := "signNames", fn := fun _ => fun
  | [d] => { results := [.lit (.bool false)], args := [d] }
  | _ => none }
def SignNamesWrongFalsely : Prop := signNamesRow.holds Try.pinned (OpenSpec.ofChange signNamesWrong)

/-- 'parcloselaw02.SignCats': WHATEVER THE INPUT: true; the input reads as it did. -/
def signCatsSpec : ChangeSpec := { name := "signCats", fn := fun _ => fun
  | [d1, d2] => { results := [.lit (.bool true)], args := [d1, d2] }
  | _ => none }
def signCatsRow : OpenClaim := { program := "ytbmkioaomjnggaa", sum := "332a7f427d4ef8d9f9498d513f57e7fe1782ad1102fe32644ed3abae60fd188a", func := "parclose/parcloselaw02.SignCats", spec := "signCats", inPlace := ["internal/abi.NoEscape"], apart := false }
def SignCatsSaid : Prop := signCatsRow.holds Try.pinned (OpenSpec.ofChange signCatsSpec)

/-- ITS FALSE NEIGHBOUR: 'it returns false'. Refute it at one input. -/
def signCatsWrong : ChangeSpec := { name := "signCats", fn := fun _ => fun
  | [d1, d2] => { results := [.lit (.bool false)], args := [d1, d2] }
  | _ => none }
def SignCatsWrongFalsely : Prop := signCatsRow.holds Try.pinned (OpenSpec.ofChange signCatsWrong)

/- THE SECOND FORM. 'bulk': how many values and letters a reading holds, each counted each time it is reached (what is shared counts as often as it is met; a slice's spare places count too). A statement '..UptoSaid' is the law's where the arguments, and the package variables that the reading takes, are together of bulk at most 1048576: NARROWER than '..Said'. Prove '..Said' where nothing that the law and all that it calls make is longer than what came in: it says more and counts as full. Else prove '..UptoSaid'. A law counts once. -/
mutual
def uptoBulk {H : Type} : DataW H → Nat
  | .lit (.string bytes) => bytes.length + 1
  | .lit _ => 1
  | .nil => 1
  | .ptr d => uptoBulk d + 1
  | .slice elems spare => uptoBulkAll elems + uptoBulkAll spare + 1
  | .agg parts => uptoBulkAll parts + 1
  | .iface _ d => uptoBulk d + 1
  | .map entries => uptoBulkEntries entries + 1
  | .held _ => 1
def uptoBulkAll {H : Type} : List (DataW H) → Nat
  | [] => 0
  | d :: r => uptoBulk d + uptoBulkAll r
def uptoBulkEntries {H : Type} : List (Lit × DataW H) → Nat
  | [] => 0
  | x :: r => uptoBulkEntry x + uptoBulkEntries r
def uptoBulkEntry {H : Type} : Lit × DataW H → Nat
  | (.string bytes, d) => bytes.length + uptoBulk d + 1
  | (_, d) => uptoBulk d + 1
 end
def uptoSmall : (H : Type) → List (DataW H) → Bool := fun _ ds => decide (uptoBulkAll ds ≤ 1048576)
def OpenSpec.upto (s : _root_.Go.ChangeSpec) : _root_.Go.OpenSpec := { _root_.Go.OpenSpec.ofChange s with cond := some uptoSmall }

/-- 'parcloselaw06.ArenaPlays', WHERE WHAT IT READS IS OF BULK AT MOST 1048576: true; the input reads as it did. -/
def arenaPlaysUptoRow : OpenClaim := { program := "ytbmkioaomjnggaa", sum := "332a7f427d4ef8d9f9498d513f57e7fe1782ad1102fe32644ed3abae60fd188a", func := "parclose/parcloselaw06.ArenaPlays", spec := "arenaPlays", apart := false, narrowed := true }
def ArenaPlaysUptoSaid : Prop := arenaPlaysUptoRow.holds Try.pinned (OpenSpec.upto arenaPlaysSpec)

/-- 'parcloselaw06.ArenaStale', WHERE WHAT IT READS IS OF BULK AT MOST 1048576: true; the input reads as it did. -/
def arenaStaleUptoRow : OpenClaim := { program := "ytbmkioaomjnggaa", sum := "332a7f427d4ef8d9f9498d513f57e7fe1782ad1102fe32644ed3abae60fd188a", func := "parclose/parcloselaw06.ArenaStale", spec := "arenaStale", apart := false, narrowed := true }
def ArenaStaleUptoSaid : Prop := arenaStaleUptoRow.holds Try.pinned (OpenSpec.upto arenaStaleSpec)

/-- 'parcloselaw06.ArenaWorn', WHERE WHAT IT READS IS OF BULK AT MOST 1048576: true; the input reads as it did. -/
def arenaWornUptoRow : OpenClaim := { program := "ytbmkioaomjnggaa", sum := "332a7f427d4ef8d9f9498d513f57e7fe1782ad1102fe32644ed3abae60fd188a", func := "parclose/parcloselaw06.ArenaWorn", spec := "arenaWorn", apart := false, narrowed := true }
def ArenaWornUptoSaid : Prop := arenaWornUptoRow.holds Try.pinned (OpenSpec.upto arenaWornSpec)

/-- 'parcloselaw06.ArenaNone', WHERE WHAT IT READS IS OF BULK AT MOST 1048576: true; the input reads as it did. -/
def arenaNoneUptoRow : OpenClaim := { program := "ytbmkioaomjnggaa", sum := "332a7f427d4ef8d9f9498d513f57e7fe1782ad1102fe32644ed3abae60fd188a", func := "parclose/parcloselaw06.ArenaNone", spec := "arenaNone", apart := false, narrowed := true }
def ArenaNoneUptoSaid : Prop := arenaNoneUptoRow.holds Try.pinned (OpenSpec.upto arenaNoneSpec)

/-- 'parcloselaw02.SignReads', WHERE WHAT IT READS IS OF BULK AT MOST 1048576: true; the input reads as it did. -/
def signReadsUptoRow : OpenClaim := { program := "ytbmkioaomjnggaa", sum := "332a7f427d4ef8d9f9498d513f57e7fe1782ad1102fe32644ed3abae60fd188a", func := "parclose/parcloselaw02.SignReads", spec := "signReads", inPlace := ["internal/abi.NoEscape"], apart := false, narrowed := true }
def SignReadsUptoSaid : Prop := signReadsUptoRow.holds Try.pinned (OpenSpec.upto signReadsSpec)

/-- 'parcloselaw02.SignPrints', WHERE WHAT IT READS IS OF BULK AT MOST 1048576: true; the input reads as it did. -/
def signPrintsUptoRow : OpenClaim := { program := "ytbmkioaomjnggaa", sum := "332a7f427d4ef8d9f9498d513f57e7fe1782ad1102fe32644ed3abae60fd188a", func := "parclose/parcloselaw02.SignPrints", spec := "signPrints", inPlace := ["internal/abi.NoEscape"], apart := false, narrowed := true }
def SignPrintsUptoSaid : Prop := signPrintsUptoRow.holds Try.pinned (OpenSpec.upto signPrintsSpec)

/-- 'parcloselaw02.SignBack', WHERE WHAT IT READS IS OF BULK AT MOST 1048576: true; the input reads as it did. -/
def signBackUptoRow : OpenClaim := { program := "ytbmkioaomjnggaa", sum := "332a7f427d4ef8d9f9498d513f57e7fe1782ad1102fe32644ed3abae60fd188a", func := "parclose/parcloselaw02.SignBack", spec := "signBack", inPlace := ["internal/abi.NoEscape"], apart := false, narrowed := true }
def SignBackUptoSaid : Prop := signBackUptoRow.holds Try.pinned (OpenSpec.upto signBackSpec)

/-- 'parcloselaw02.SignUnlike', WHERE WHAT IT READS IS OF BULK AT MOST 1048576: true; the input reads as it did. -/
def signUnlikeUptoRow : OpenClaim := { program := "ytbmkioaomjnggaa", sum := "332a7f427d4ef8d9f9498d513f57e7fe1782ad1102fe32644ed3abae60fd188a", func := "parclose/parcloselaw02.SignUnlike", spec := "signUnlike", inPlace := ["internal/abi.NoEscape"], apart := false, narrowed := true }
def SignUnlikeUptoSaid : Prop := signUnlikeUptoRow.holds Try.pinned (OpenSpec.upto signUnlikeSpec)

/-- 'parcloselaw02.SignNames', WHERE WHAT IT READS IS OF BULK AT MOST 1048576: true; the input reads as it did. -/
def signNamesUptoRow : OpenClaim := { program := "ytbmkioaomjnggaa", sum := "332a7f427d4ef8d9f9498d513f57e7fe1782ad1102fe32644ed3abae60fd188a", func := "parclose/parcloselaw02.SignNames", spec := "signNames", inPlace := ["internal/abi.NoEscape"], apart := false, narrowed := true }
def SignNamesUptoSaid : Prop := signNamesUptoRow.holds Try.pinned (OpenSpec.upto signNamesSpec)

/-- 'parcloselaw02.SignCats', WHERE WHAT IT READS IS OF BULK AT MOST 1048576: true; the input reads as it did. -/
def signCatsUptoRow : OpenClaim := { program := "ytbmkioaomjnggaa", sum := "332a7f427d4ef8d9f9498d513f57e7fe1782ad1102fe32644ed3abae60fd188a", func := "parclose/parcloselaw02.SignCats", spec := "signCats", inPlace := ["internal/abi.NoEscape"], apart := false, narrowed := true }
def SignCatsUptoSaid : Prop := signCatsUptoRow.holds Try.pinned (OpenSpec.upto signCatsSpec)

end Rows
end Go.Proofs.Ytbmkioaomjnggaa
