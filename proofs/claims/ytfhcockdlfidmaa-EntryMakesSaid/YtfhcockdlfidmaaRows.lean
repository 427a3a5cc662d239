/-
  No cell of these rows narrows 'for every input' (looked for: loops, veiled, ifaces, maps, wideKeys, modest, calm, conditions, laid).
  DERIVED. THE GIVEN ROWS OF THIS SEAT. 5 by the template 'for every input the law returns true; each argument reads behind the call as it read before'; 0 by the template 'total and deterministic' (their statements: YtfhcockdlfidmaaTotals.lean).
  GIVEN WITH THE SEED: the statements are not yours to turn. If you find one false, say at which input.
  Laid BY PROGRAM, IN A SANDBOX (cutbox-rows.mjs): the forced cells as the released guide's own fill.sh prints them over the translation 47725dec9f342f10… (all of the seat's roots in one cut). By AI agents, Wed Nov 11 2026. No macro, syntax, notation, axiom, sorry.
-/
import Derived.Test.YtfhcockdlfidmaaChecked
import GoSem.Claim
import GoSem.ClaimJoined
import GoSem.ClaimMapViews
import Derived.JoinedTies
import Derived.KernelRfl
namespace Go.Proofs.Ytfhcockdlfidmaa
/- THE CELL 'sum', in the pinned program and in every row, IS THE sha256 OF THE DUMP (.gsa) THAT YtfhcockdlfidmaaProg.lean LOADS. Nothing in Lean hashes anything: it is a label: what it is worth is what the hold of that sum in a sandbox is worth. -/
noncomputable def Try.pinned : Pinned := { name := "ytfhcockdlfidmaa", sum := "47725dec9f342f10b610b08abb376e916df7e143fc1fa5caebb175ac89146bfc", checked := Try.checked }
namespace Rows
def none {H : Type} : Left H := { results := [], args := [] }

/-- 'purserlaw07.EntryTurns': WHATEVER THE INPUT: true; the input reads as it did. -/
def entryTurnsSpec : ChangeSpec := { name := "entryTurns", fn := fun _ => fun
  | [d] => { results := [.lit (.bool true)], args := [d] }
  | _ => none }
def entryTurnsRow : OpenClaim := { program := "ytfhcockdlfidmaa", sum := "47725dec9f342f10b610b08abb376e916df7e143fc1fa5caebb175ac89146bfc", func := "purser/purserlaw07.EntryTurns", spec := "entryTurns", inPlace := ["math/bits.Add64"], unfollowed := true, recurses := true, plainKeys := false, apart := false }
def EntryTurnsSaid : Prop := entryTurnsRow.holds Try.pinned (OpenSpec.ofChange entryTurnsSpec)

/-- ITS FALSE NEIGHBOUR: 'it returns false'. Refute it at one input. -/
def entryTurnsWrong : ChangeSpec := { name := "entryTurns", fn := fun _ => fun
  | [d] => { results := [.lit (.bool false)], args := [d] }
  | _ => none }
def EntryTurnsWrongFalsely : Prop := entryTurnsRow.holds Try.pinned (OpenSpec.ofChange entryTurnsWrong)

/-- 'purserlaw07.EntryOpens': WHATEVER THE INPUT: true; the input reads as it did. -/
def entryOpensSpec : ChangeSpec := { name := "entryOpens", fn := fun _ => fun
  | [d1, d2, d3] => { results := [.lit (.bool true)], args := [d1, d2, d3] }
  | _ => none }
def entryOpensRow : OpenClaim := { program := "ytfhcockdlfidmaa", sum := "47725dec9f342f10b610b08abb376e916df7e143fc1fa5caebb175ac89146bfc", func := "purser/purserlaw07.EntryOpens", spec := "entryOpens", inPlace := ["math/bits.Add64"], unfollowed := true, recurses := true, plainKeys := false, apart := false }
def EntryOpensSaid : Prop := entryOpensRow.holds Try.pinned (OpenSpec.ofChange entryOpensSpec)

/-- ITS FALSE NEIGHBOUR: 'it returns false'. Refute it at one input. -/
def entryOpensWrong : ChangeSpec := { name := "entryOpens", fn := fun _ => fun
  | [d1, d2, d3] => { results := [.lit (.bool false)], args := [d1, d2, d3] }
  | _ => none }
def EntryOpensWrongFalsely : Prop := entryOpensRow.holds Try.pinned (OpenSpec.ofChange entryOpensWrong)

/-- 'purserlaw07.EntrySums': WHATEVER THE INPUT: true; the input reads as it did. -/
def entrySumsSpec : ChangeSpec := { name := "entrySums", fn := fun _ => fun
  | [d1, d2, d3] => { results := [.lit (.bool true)], args := [d1, d2, d3] }
  | _ => none }
def entrySumsRow : OpenClaim := { program := "ytfhcockdlfidmaa", sum := "47725dec9f342f10b610b08abb376e916df7e143fc1fa5caebb175ac89146bfc", func := "purser/purserlaw07.EntrySums", spec := "entrySums", inPlace := ["math/bits.Add64"], unfollowed := true, recurses := true, plainKeys := false, apart := false }
def EntrySumsSaid : Prop := entrySumsRow.holds Try.pinned (OpenSpec.ofChange entrySumsSpec)

/-- ITS FALSE NEIGHBOUR: 'it returns false'. Refute it at one input. -/
def entrySumsWrong : ChangeSpec := { name := "entrySums", fn := fun _ => fun
  | [d1, d2, d3] => { results := [.lit (.bool false)], args := [d1, d2, d3] }
  | _ => none }
def EntrySumsWrongFalsely : Prop := entrySumsRow.holds Try.pinned (OpenSpec.ofChange entrySumsWrong)

/-- 'purserlaw07.EntryChecks': WHATEVER THE INPUT: true; the input reads as it did. -/
def entryChecksSpec : ChangeSpec := { name := "entryChecks", fn := fun _ => fun
  | [d] => { results := [.lit (.bool true)], args := [d] }
  | _ => none }
def entryChecksRow : OpenClaim := { program := "ytfhcockdlfidmaa", sum := "47725dec9f342f10b610b08abb376e916df7e143fc1fa5caebb175ac89146bfc", func := "purser/purserlaw07.EntryChecks", spec := "entryChecks", inPlace := ["math/bits.Add64"], unfollowed := true, recurses := true, plainKeys := false, apart := false }
def EntryChecksSaid : Prop := entryChecksRow.holds Try.pinned (OpenSpec.ofChange entryChecksSpec)

/-- ITS FALSE NEIGHBOUR: 'it returns false'. Refute it at one input. -/
def entryChecksWrong : ChangeSpec := { name := "entryChecks", fn := fun _ => fun
  | [d] => { results := [.lit (.bool false)], args := [d] }
  | _ => none }
def EntryChecksWrongFalsely : Prop := entryChecksRow.holds Try.pinned (OpenSpec.ofChange entryChecksWrong)

/-- 'purserlaw07.EntryMakes': WHATEVER THE INPUT: true; the input reads as it did. -/
def entryMakesSpec : ChangeSpec := { name := "entryMakes", fn := fun _ => fun
  | [d1, d2, d3] => { results := [.lit (.bool true)], args := [d1, d2, d3] }
  | _ => none }
def entryMakesRow : OpenClaim := { program := "ytfhcockdlfidmaa", sum := "47725dec9f342f10b610b08abb376e916df7e143fc1fa5caebb175ac89146bfc", func := "purser/purserlaw07.EntryMakes", spec := "entryMakes", inPlace := ["math/bits.Add64"], unfollowed := true, recurses := true, plainKeys := false, apart := false }
def EntryMakesSaid : Prop := entryMakesRow.holds Try.pinned (OpenSpec.ofChange entryMakesSpec)

/-- ITS FALSE NEIGHBOUR: 'it returns false'. Refute it at one input. -/
def entryMakesWrong : ChangeSpec := { name := "entryMakes", fn := fun _ => fun
  | [d1, d2, d3] => { results := [.lit (.bool false)], args := [d1, d2, d3] }
  | _ => none }
def EntryMakesWrongFalsely : Prop := entryMakesRow.holds Try.pinned (OpenSpec.ofChange entryMakesWrong)

/- THE SECOND FORM. 'bulk': how many values and letters a reading holds, each counted each time it is reached (what is shared counts as often as it is met; a slice's spare places count too). A statement '..UptoSaid' is the law's where the arguments, and the package variables that the reading takes, are together of bulk at most 1048576: NARROWER than '..Said'. Prove '..Said' where nothing that the law and all that it calls make is longer than what came in: it says more and counts as full. Else prove '..UptoSaid'. A law counts once. -/
mutual
def uptoBulk {H : Type} : DataW H → Nat
  | .lit (.string bytes) => bytes.length + 1
  | .lit _ => 1
  | .nil => 1
  | .ptr d => uptoBulk d + 1
  | .slice elems spare => uptoBulkAll elems + uptoBulkAll spare + 1
  | .agg parts => uptoBulkAll parts + 1
  | .iface _ d => uptoBulk d + 1
  | .map entries => uptoBulkEntries entries + 1
  | .held _ => 1
def uptoBulkAll {H : Type} : List (DataW H) → Nat
  | [] => 0
  | d :: r => uptoBulk d + uptoBulkAll r
def uptoBulkEntries {H : Type} : List (Lit × DataW H) → Nat
  | [] => 0
  | x :: r => uptoBulkEntry x + uptoBulkEntries r
def uptoBulkEntry {H : Type} : Lit × DataW H → Nat
  | (.string bytes, d) => bytes.length + uptoBulk d + 1
  | (_, d) => uptoBulk d + 1
 end
def uptoSmall : (H : Type) → List (DataW H) → Bool := fun _ ds => decide (uptoBulkAll ds ≤ 1048576)
def OpenSpec.upto (s : _root_.Go.ChangeSpec) : _root_.Go.OpenSpec := { _root_.Go.OpenSpec.ofChange s with cond := some uptoSmall }

/-- 'purserlaw07.EntryTurns', WHERE WHAT IT READS IS OF BULK AT MOST 1048576: true; the input reads as it did. -/
def entryTurnsUptoRow : OpenClaim := { program := "ytfhcockdlfidmaa", sum := "47725dec9f342f10b610b08abb376e916df7e143fc1fa5caebb175ac89146bfc", func := "purser/purserlaw07.EntryTurns", spec := "entryTurns", inPlace := ["math/bits.Add64"], unfollowed := true, recurses := true, plainKeys := false, apart := false, narrowed := true }
def EntryTurnsUptoSaid : Prop := entryTurnsUptoRow.holds Try.pinned (OpenSpec.upto entryTurnsSpec)

/-- 'purserlaw07.EntryOpens', WHERE WHAT IT READS IS OF BULK AT MOST 1048576: true; the input reads as it did. -/
def entryOpensUptoRow : OpenClaim := { program := "ytfhcockdlfidmaa", sum := "47725dec9f342f10b610b08abb376e916df7e143fc1fa5caebb175ac89146bfc", func := "purser/purserlaw07.EntryOpens", spec := "entryOpens", inPlace := ["math/bits.Add64"], unfollowed := true, recurses := true, plainKeys := false, apart := false, narrowed := true }
def EntryOpensUptoSaid : Prop := entryOpensUptoRow.holds Try.pinned (OpenSpec.upto entryOpensSpec)

/-- 'purserlaw07.EntrySums', WHERE WHAT IT READS IS OF BULK AT MOST 1048576: true; the input reads as it did. -/
def entrySumsUptoRow : OpenClaim := { program := "ytfhcockdlfidmaa", sum := "47725dec9f342f10b610b08abb376e916df7e143fc1fa5caebb175ac89146bfc", func := "purser/purserlaw07.EntrySums", spec := "entrySums", inPlace := ["math/bits.Add64"], unfollowed := true, recurses := true, plainKeys := false, apart := false, narrowed := true }
def EntrySumsUptoSaid : Prop := entrySumsUptoRow.holds Try.pinned (OpenSpec.upto entrySumsSpec)

/-- 'purserlaw07.EntryChecks', WHERE WHAT IT READS IS OF BULK AT MOST 1048576: true; the input reads as it did. -/
def entryChecksUptoRow : OpenClaim := { program := "ytfhcockdlfidmaa", sum := "47725dec9f342f10b610b08abb376e916df7e143fc1fa5caebb175ac89146bfc", func := "purser/purserlaw07.EntryChecks", spec := "entryChecks", inPlace := ["math/bits.Add64"], unfollowed := true, recurses := true, plainKeys := false, apart := false, narrowed := true }
def EntryChecksUptoSaid : Prop := entryChecksUptoRow.holds Try.pinned (OpenSpec.upto entryChecksSpec)

/-- 'purserlaw07.EntryMakes', WHERE WHAT IT READS IS OF BULK AT MOST 1048576: true; the input reads as it did. -/
def entryMakesUptoRow : OpenClaim := { program := "ytfhcockdlfidmaa", sum := "47725dec9f342f10b610b08abb376e916df7e143fc1fa5caebb175ac89146bfc", func := "purser/purserlaw07.EntryMakes", spec := "entryMakes", inPlace := ["math/bits.Add64"], unfollowed := true, recurses := true, plainKeys := false, apart := false, narrowed := true }
def EntryMakesUptoSaid : Prop := entryMakesUptoRow.holds Try.pinned (OpenSpec.upto entryMakesSpec)

end Rows
end Go.Proofs.Ytfhcockdlfidmaa
