/-
  No cell of these rows narrows 'for every input' (looked for: loops, veiled, ifaces, maps, wideKeys, modest, calm, conditions, laid).
  DERIVED. THE GIVEN ROWS OF THIS SEAT. 3 by the template 'for every input the law returns true; each argument reads behind the call as it read before'; 0 by the template 'total and deterministic' (their statements: YtniohchnpfpffaaTotals.lean).
  GIVEN WITH THE SEED: the statements are not yours to turn. If you find one false, say at which input.
  Laid BY PROGRAM, IN A SANDBOX (cutbox-rows.mjs): the forced cells as the released guide's own fill.sh prints them over the translation 88734fc72ee07229… (all of the seat's roots in one cut). By AI agents, Wed Nov 11 2026. No macro, syntax, notation, axiom, sorry.
-/
import Derived.Test.YtniohchnpfpffaaChecked
import GoSem.Claim
import GoSem.ClaimJoined
import GoSem.ClaimMapViews
import Derived.JoinedTies
import Derived.KernelRfl
namespace Go.Proofs.Ytniohchnpfpffaa
/- THE CELL 'sum', in the pinned program and in every row, IS THE sha256 OF THE DUMP (.gsa) THAT YtniohchnpfpffaaProg.lean LOADS. Nothing in Lean hashes anything: it is a label: what it is worth is what the hold of that sum in a sandbox is worth. -/
noncomputable def Try.pinned : Pinned := { name := "ytniohchnpfpffaa", sum := "88734fc72ee0722936314a45b184674be183c51c8aba58aba8b7ecc4c73ed66e", checked := Try.checked }
namespace Rows
def none {H : Type} : Left H := { results := [], args := [] }

/-- 'purserlaw08.JournalFull': WHATEVER THE INPUT: true; the input reads as it did. -/
def journalFullSpec : ChangeSpec := { name := "journalFull", fn := fun _ => fun
  | [d1, d2] => { results := [.lit (.bool true)], args := [d1, d2] }
  | _ => none }
def journalFullRow : OpenClaim := { program := "ytniohchnpfpffaa", sum := "88734fc72ee0722936314a45b184674be183c51c8aba58aba8b7ecc4c73ed66e", func := "purser/purserlaw08.JournalFull", spec := "journalFull", inPlace := ["math/bits.Add64"], unfollowed := true, recurses := true, plainKeys := false, apart := false }
def JournalFullSaid : Prop := journalFullRow.holds Try.pinned (OpenSpec.ofChange journalFullSpec)

/-- ITS FALSE NEIGHBOUR: 'it returns false'. Refute it at one input. -/
def journalFullWrong : ChangeSpec := { name := "journalFull", fn := fun _ => fun
  | [d1, d2] => { results := [.lit (.bool false)], args := [d1, d2] }
  | _ => none }
def JournalFullWrongFalsely : Prop := journalFullRow.holds Try.pinned (OpenSpec.ofChange journalFullWrong)

/-- 'purserlaw08.JournalBalanced': WHATEVER THE INPUT: true; the input reads as it did. -/
def journalBalancedSpec : ChangeSpec := { name := "journalBalanced", fn := fun _ => fun
  | [d] => { results := [.lit (.bool true)], args := [d] }
  | _ => none }
def journalBalancedRow : OpenClaim := { program := "ytniohchnpfpffaa", sum := "88734fc72ee0722936314a45b184674be183c51c8aba58aba8b7ecc4c73ed66e", func := "purser/purserlaw08.JournalBalanced", spec := "journalBalanced", inPlace := ["math/bits.Add64"], unfollowed := true, recurses := true, plainKeys := false, apart := false }
def JournalBalancedSaid : Prop := journalBalancedRow.holds Try.pinned (OpenSpec.ofChange journalBalancedSpec)

/-- ITS FALSE NEIGHBOUR: 'it returns false'. Refute it at one input. -/
def journalBalancedWrong : ChangeSpec := { name := "journalBalanced", fn := fun _ => fun
  | [d] => { results := [.lit (.bool false)], args := [d] }
  | _ => none }
def JournalBalancedWrongFalsely : Prop := journalBalancedRow.holds Try.pinned (OpenSpec.ofChange journalBalancedWrong)

/-- 'purserlaw15.PeriodParts': WHATEVER THE INPUT: true; the input reads as it did. -/
def periodPartsSpec : ChangeSpec := { name := "periodParts", fn := fun _ => fun
  | [d1, d2, d3] => { results := [.lit (.bool true)], args := [d1, d2, d3] }
  | _ => none }
def periodPartsRow : OpenClaim := { program := "ytniohchnpfpffaa", sum := "88734fc72ee0722936314a45b184674be183c51c8aba58aba8b7ecc4c73ed66e", func := "purser/purserlaw15.PeriodParts", spec := "periodParts", unfollowed := true, recurses := true, plainKeys := false, apart := false }
def PeriodPartsSaid : Prop := periodPartsRow.holds Try.pinned (OpenSpec.ofChange periodPartsSpec)

/-- ITS FALSE NEIGHBOUR: 'it returns false'. Refute it at one input. -/
def periodPartsWrong : ChangeSpec := { name := "periodParts", fn := fun _ => fun
  | [d1, d2, d3] => { results := [.lit (.bool false)], args := [d1, d2, d3] }
  | _ => none }
def PeriodPartsWrongFalsely : Prop := periodPartsRow.holds Try.pinned (OpenSpec.ofChange periodPartsWrong)

/- THE SECOND FORM. 'bulk': how many values and letters a reading holds, each counted each time it is reached (what is shared counts as often as it is met; a slice's spare places count too). A statement '..UptoSaid' is the law's where the arguments, and the package variables that the reading takes, are together of bulk at most 1048576: NARROWER than '..Said'. Prove '..Said' where nothing that the law and all that it calls make is longer than what came in: it says more and counts as full. Else prove '..UptoSaid'. A law counts once. -/
mutual
def uptoBulk {H : Type} : DataW H → Nat
  | .lit (.string bytes) => bytes.length + 1
  | .lit _ => 1
  | .nil => 1
  | .ptr d => uptoBulk d + 1
  | .slice elems spare => uptoBulkAll elems + uptoBulkAll spare + 1
  | .agg parts => uptoBulkAll parts + 1
  | .iface _ d => uptoBulk d + 1
  | .map entries => uptoBulkEntries entries + 1
  | .held _ => 1
def uptoBulkAll {H : Type} : List (DataW H) → Nat
  | [] => 0
  | d :: r => uptoBulk d + uptoBulkAll r
def uptoBulkEntries {H : Type} : List (Lit × DataW H) → Nat
  | [] => 0
  | x :: r => uptoBulkEntry x + uptoBulkEntries r
def uptoBulkEntry {H : Type} : Lit × DataW H → Nat
  | (.string bytes, d) => bytes.length + uptoBulk d + 1
  | (_, d) => uptoBulk d + 1
 end
def uptoSmall : (H : Type) → List (DataW H) → Bool := fun _ ds => decide (uptoBulkAll ds ≤ 1048576)
def OpenSpec.upto (s : _root_.Go.ChangeSpec) : _root_.Go.OpenSpec := { _root_.Go.OpenSpec.ofChange s with cond := some uptoSmall }

/-- 'purserlaw08.JournalFull', WHERE WHAT IT READS IS OF BULK AT MOST 1048576: true; the input reads as it did. -/
def journalFullUptoRow : OpenClaim := { program := "ytniohchnpfpffaa", sum := "88734fc72ee0722936314a45b184674be183c51c8aba58aba8b7ecc4c73ed66e", func := "purser/purserlaw08.JournalFull", spec := "journalFull", inPlace := ["math/bits.Add64"], unfollowed := true, recurses := true, plainKeys := false, apart := false, narrowed := true }
def JournalFullUptoSaid : Prop := journalFullUptoRow.holds Try.pinned (OpenSpec.upto journalFullSpec)

/-- 'purserlaw08.JournalBalanced', WHERE WHAT IT READS IS OF BULK AT MOST 1048576: true; the input reads as it did. -/
def journalBalancedUptoRow : OpenClaim := { program := "ytniohchnpfpffaa", sum := "88734fc72ee0722936314a45b184674be183c51c8aba58aba8b7ecc4c73ed66e", func := "purser/purserlaw08.JournalBalanced", spec := "journalBalanced", inPlace := ["math/bits.Add64"], unfollowed := true, recurses := true, plainKeys := false, apart := false, narrowed := true }
def JournalBalancedUptoSaid : Prop := journalBalancedUptoRow.holds Try.pinned (OpenSpec.upto journalBalancedSpec)

/-- 'purserlaw15.PeriodParts', WHERE WHAT IT READS IS OF BULK AT MOST 1048576: true; the input reads as it did. -/
def periodPartsUptoRow : OpenClaim := { program := "ytniohchnpfpffaa", sum := "88734fc72ee0722936314a45b184674be183c51c8aba58aba8b7ecc4c73ed66e", func := "purser/purserlaw15.PeriodParts", spec := "periodParts", unfollowed := true, recurses := true, plainKeys := false, apart := false, narrowed := true }
def PeriodPartsUptoSaid : Prop := periodPartsUptoRow.holds Try.pinned (OpenSpec.upto periodPartsSpec)

end Rows
end Go.Proofs.Ytniohchnpfpffaa
