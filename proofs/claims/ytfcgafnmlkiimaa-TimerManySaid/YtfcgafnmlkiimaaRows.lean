/-
  No cell of these rows narrows 'for every input' (looked for: loops, veiled, ifaces, maps, wideKeys, modest, calm, conditions, laid).
  DERIVED. THE GIVEN ROWS OF THIS SEAT. 4 by the template 'for every input the law returns true; each argument reads behind the call as it read before'; 0 by the template 'total and deterministic' (their statements: YtfcgafnmlkiimaaTotals.lean).
  GIVEN WITH THE SEED: the statements are not yours to turn. If you find one false, say at which input.
  Laid BY PROGRAM, IN A SANDBOX (cutbox-rows.mjs): the forced cells as the released guide's own fill.sh prints them over the translation 9ed2ebf36b547073… (all of the seat's roots in one cut). By AI agents, Wed Nov 11 2026. No macro, syntax, notation, axiom, sorry.
-/
import Derived.Test.YtfcgafnmlkiimaaChecked
import GoSem.Claim
import GoSem.ClaimJoined
import GoSem.ClaimMapViews
import Derived.JoinedTies
import Derived.KernelRfl
namespace Go.Proofs.Ytfcgafnmlkiimaa
/- THE CELL 'sum', in the pinned program and in every row, IS THE sha256 OF THE DUMP (.gsa) THAT YtfcgafnmlkiimaaProg.lean LOADS. Nothing in Lean hashes anything: it is a label: what it is worth is what the hold of that sum in a sandbox is worth. -/
noncomputable def Try.pinned : Pinned := { name := "ytfcgafnmlkiimaa", sum := "9ed2ebf36b5470730e51a8e9b2799486ab48a3cc24739040c233ee8b13be2e0b", checked := Try.checked }
namespace Rows
def none {H : Type} : Left H := { results := [], args := [] }

/-- 'purserlaw19.TimerSteps': WHATEVER THE INPUT: true; the input reads as it did. -/
def timerStepsSpec : ChangeSpec := { name := "timerSteps", fn := fun _ => fun
  | [d1, d2] => { results := [.lit (.bool true)], args := [d1, d2] }
  | _ => none }
def timerStepsRow : OpenClaim := { program := "ytfcgafnmlkiimaa", sum := "9ed2ebf36b5470730e51a8e9b2799486ab48a3cc24739040c233ee8b13be2e0b", func := "purser/purserlaw19.TimerSteps", spec := "timerSteps", unfollowed := true, recurses := true, apart := false }
def TimerStepsSaid : Prop := timerStepsRow.holds Try.pinned (OpenSpec.ofChange timerStepsSpec)

/-- ITS FALSE NEIGHBOUR: 'it returns false'. Refute it at one input. -/
def timerStepsWrong : ChangeSpec := { name := "timerSteps", fn := fun _ => fun
  | [d1, d2] => { results := [.lit (.bool false)], args := [d1, d2] }
  | _ => none }
def TimerStepsWrongFalsely : Prop := timerStepsRow.holds Try.pinned (OpenSpec.ofChange timerStepsWrong)

/-- 'purserlaw19.TimerMany': WHATEVER THE INPUT: true; the input reads as it did. -/
def timerManySpec : ChangeSpec := { name := "timerMany", fn := fun _ => fun
  | [d1, d2] => { results := [.lit (.bool true)], args := [d1, d2] }
  | _ => none }
def timerManyRow : OpenClaim := { program := "ytfcgafnmlkiimaa", sum := "9ed2ebf36b5470730e51a8e9b2799486ab48a3cc24739040c233ee8b13be2e0b", func := "purser/purserlaw19.TimerMany", spec := "timerMany", unfollowed := true, recurses := true, apart := false }
def TimerManySaid : Prop := timerManyRow.holds Try.pinned (OpenSpec.ofChange timerManySpec)

/-- ITS FALSE NEIGHBOUR: 'it returns false'. Refute it at one input. -/
def timerManyWrong : ChangeSpec := { name := "timerMany", fn := fun _ => fun
  | [d1, d2] => { results := [.lit (.bool false)], args := [d1, d2] }
  | _ => none }
def TimerManyWrongFalsely : Prop := timerManyRow.holds Try.pinned (OpenSpec.ofChange timerManyWrong)

/-- 'purserlaw19.TimerAgain': WHATEVER THE INPUT: true; the input reads as it did. -/
def timerAgainSpec : ChangeSpec := { name := "timerAgain", fn := fun _ => fun
  | [d1, d2, d3] => { results := [.lit (.bool true)], args := [d1, d2, d3] }
  | _ => none }
def timerAgainRow : OpenClaim := { program := "ytfcgafnmlkiimaa", sum := "9ed2ebf36b5470730e51a8e9b2799486ab48a3cc24739040c233ee8b13be2e0b", func := "purser/purserlaw19.TimerAgain", spec := "timerAgain", unfollowed := true, recurses := true, apart := false }
def TimerAgainSaid : Prop := timerAgainRow.holds Try.pinned (OpenSpec.ofChange timerAgainSpec)

/-- ITS FALSE NEIGHBOUR: 'it returns false'. Refute it at one input. -/
def timerAgainWrong : ChangeSpec := { name := "timerAgain", fn := fun _ => fun
  | [d1, d2, d3] => { results := [.lit (.bool false)], args := [d1, d2, d3] }
  | _ => none }
def TimerAgainWrongFalsely : Prop := timerAgainRow.holds Try.pinned (OpenSpec.ofChange timerAgainWrong)

/-- 'purserlaw19.TimerActs': WHATEVER THE INPUT: true; the input reads as it did. -/
def timerActsSpec : ChangeSpec := { name := "timerActs", fn := fun _ => fun
  | [d1, d2] => { results := [.lit (.bool true)], args := [d1, d2] }
  | _ => none }
def timerActsRow : OpenClaim := { program := "ytfcgafnmlkiimaa", sum := "9ed2ebf36b5470730e51a8e9b2799486ab48a3cc24739040c233ee8b13be2e0b", func := "purser/purserlaw19.TimerActs", spec := "timerActs", unfollowed := true, recurses := true, apart := false }
def TimerActsSaid : Prop := timerActsRow.holds Try.pinned (OpenSpec.ofChange timerActsSpec)

/-- ITS FALSE NEIGHBOUR: 'it returns false'. Refute it at one input. -/
def timerActsWrong : ChangeSpec := { name := "timerActs", fn := fun _ => fun
  | [d1, d2] => { results := [.lit (.bool false)], args := [d1, d2] }
  | _ => none }
def TimerActsWrongFalsely : Prop := timerActsRow.holds Try.pinned (OpenSpec.ofChange timerActsWrong)

/- THE SECOND FORM. 'bulk': how many values and letters a reading holds, each counted each time it is reached (what is shared counts as often as it is met; a slice's spare places count too). A statement '..UptoSaid' is the law's where the arguments, and the package variables that the reading takes, are together of bulk at most 1048576: NARROWER than '..Said'. Prove '..Said' where nothing that the law and all that it calls make is longer than what came in: it says more and counts as full. Else prove '..UptoSaid'. A law counts once. -/
mutual
def uptoBulk {H : Type} : DataW H → Nat
  | .lit (.string bytes) => bytes.length + 1
  | .lit _ => 1
  | .nil => 1
  | .ptr d => uptoBulk d + 1
  | .slice elems spare => uptoBulkAll elems + uptoBulkAll spare + 1
  | .agg parts => uptoBulkAll parts + 1
  | .iface _ d => uptoBulk d + 1
  | .map entries => uptoBulkEntries entries + 1
  | .held _ => 1
def uptoBulkAll {H : Type} : List (DataW H) → Nat
  | [] => 0
  | d :: r => uptoBulk d + uptoBulkAll r
def uptoBulkEntries {H : Type} : List (Lit × DataW H) → Nat
  | [] => 0
  | x :: r => uptoBulkEntry x + uptoBulkEntries r
def uptoBulkEntry {H : Type} : Lit × DataW H → Nat
  | (.string bytes, d) => bytes.length + uptoBulk d + 1
  | (_, d) => uptoBulk d + 1
 end
def uptoSmall : (H : Type) → List (DataW H) → Bool := fun _ ds => decide (uptoBulkAll ds ≤ 1048576)
def OpenSpec.upto (s : _root_.Go.ChangeSpec) : _root_.Go.OpenSpec := { _root_.Go.OpenSpec.ofChange s with cond := some uptoSmall }

/-- 'purserlaw19.TimerSteps', WHERE WHAT IT READS IS OF BULK AT MOST 1048576: true; the input reads as it did. -/
def timerStepsUptoRow : OpenClaim := { program := "ytfcgafnmlkiimaa", sum := "9ed2ebf36b5470730e51a8e9b2799486ab48a3cc24739040c233ee8b13be2e0b", func := "purser/purserlaw19.TimerSteps", spec := "timerSteps", unfollowed := true, recurses := true, apart := false, narrowed := true }
def TimerStepsUptoSaid : Prop := timerStepsUptoRow.holds Try.pinned (OpenSpec.upto timerStepsSpec)

/-- 'purserlaw19.TimerMany', WHERE WHAT IT READS IS OF BULK AT MOST 1048576: true; the input reads as it did. -/
def timerManyUptoRow : OpenClaim := { program := "ytfcgafnmlkiimaa", sum := "9ed2ebf36b5470730e51a8e9b2799486ab48a3cc24739040c233ee8b13be2e0b", func := "purser/purserlaw19.TimerMany", spec := "timerMany", unfollowed := true, recurses := true, apart := false, narrowed := true }
def TimerManyUptoSaid : Prop := timerManyUptoRow.holds Try.pinned (OpenSpec.upto timerManySpec)

/-- 'purserlaw19.TimerAgain', WHERE WHAT IT READS IS OF BULK AT MOST 1048576: true; the input reads as it did. -/
def timerAgainUptoRow : OpenClaim := { program := "ytfcgafnmlkiimaa", sum := "9ed2ebf36b5470730e51a8e9b2799486ab48a3cc24739040c233ee8b13be2e0b", func := "purser/purserlaw19.TimerAgain", spec := "timerAgain", unfollowed := true, recurses := true, apart := false, narrowed := true }
def TimerAgainUptoSaid : Prop := timerAgainUptoRow.holds Try.pinned (OpenSpec.upto timerAgainSpec)

/-- 'purserlaw19.TimerActs', WHERE WHAT IT READS IS OF BULK AT MOST 1048576: true; the input reads as it did. -/
def timerActsUptoRow : OpenClaim := { program := "ytfcgafnmlkiimaa", sum := "9ed2ebf36b5470730e51a8e9b2799486ab48a3cc24739040c233ee8b13be2e0b", func := "purser/purserlaw19.TimerActs", spec := "timerActs", unfollowed := true, recurses := true, apart := false, narrowed := true }
def TimerActsUptoSaid : Prop := timerActsUptoRow.holds Try.pinned (OpenSpec.upto timerActsSpec)

end Rows
end Go.Proofs.Ytfcgafnmlkiimaa
