/-
  No cell of these rows narrows 'for every input' (looked for: loops, veiled, ifaces, maps, wideKeys, modest, calm, conditions, laid).
  DERIVED. THE GIVEN ROWS OF THIS SEAT. 6 by the template 'for every input the law returns true; each argument reads behind the call as it read before'; 0 by the template 'total and deterministic' (their statements: YtniohchnpfpffaaGreatTotals.lean).
  GIVEN WITH THE SEED: the statements are not yours to turn. If you find one false, say at which input.
  Laid BY PROGRAM, IN A SANDBOX (cutbox-rows.mjs): the forced cells as the released guide's own fill.sh prints them over the translation 8016327ac58ea5dc… (all of the seat's roots in one cut). By AI agents, Wed Nov 11 2026. No macro, syntax, notation, axiom, sorry.
-/
import Derived.Test.YtniohchnpfpffaaGreatChecked
import GoSem.Claim
import GoSem.ClaimJoined
import GoSem.ClaimMapViews
import Derived.JoinedTies
import Derived.KernelRfl
namespace Go.Proofs.YtniohchnpfpffaaGreat
/- THE CELL 'sum', in the pinned program and in every row, IS THE sha256 OF THE DUMP (.gsa) THAT YtniohchnpfpffaaGreatProg.lean LOADS. Nothing in Lean hashes anything: it is a label: what it is worth is what the hold of that sum in a sandbox is worth. -/
noncomputable def Tryz.pinned : Pinned := { name := "ytniohchnpfpffaagreat", sum := "8016327ac58ea5dcce5758aec9bde8fffad6c2b8b35e60733a8ee9413fa5ba60", checked := Tryz.checked }
namespace Rows
def none {H : Type} : Left H := { results := [], args := [] }

/-- 'purserlaw08.JournalJobs': WHATEVER THE INPUT: true; the input reads as it did. -/
def journalJobsSpec : ChangeSpec := { name := "journalJobs", fn := fun _ => fun
  | [d1, d2] => { results := [.lit (.bool true)], args := [d1, d2] }
  | _ => none }
def journalJobsRow : OpenClaim := { program := "ytniohchnpfpffaagreat", sum := "8016327ac58ea5dcce5758aec9bde8fffad6c2b8b35e60733a8ee9413fa5ba60", func := "purser/purserlaw08.JournalJobs", spec := "journalJobs", inPlace := ["math/bits.Add64"], unfollowed := true, recurses := true, plainKeys := false, apart := false }
def JournalJobsSaid : Prop := journalJobsRow.holds Tryz.pinned (OpenSpec.ofChange journalJobsSpec)

/-- ITS FALSE NEIGHBOUR: 'it returns false'. Refute it at one input. -/
def journalJobsWrong : ChangeSpec := { name := "journalJobs", fn := fun _ => fun
  | [d1, d2] => { results := [.lit (.bool false)], args := [d1, d2] }
  | _ => none }
def JournalJobsWrongFalsely : Prop := journalJobsRow.holds Tryz.pinned (OpenSpec.ofChange journalJobsWrong)

/-- 'purserlaw28.ReplayAny': WHATEVER THE INPUT: true; the input reads as it did. -/
def replayAnySpec : ChangeSpec := { name := "replayAny", fn := fun _ => fun
  | [d1, d2] => { results := [.lit (.bool true)], args := [d1, d2] }
  | _ => none }
def replayAnyRow : OpenClaim := { program := "ytniohchnpfpffaagreat", sum := "8016327ac58ea5dcce5758aec9bde8fffad6c2b8b35e60733a8ee9413fa5ba60", func := "purser/purserlaw28.ReplayAny", spec := "replayAny", unfollowed := true, recurses := true, plainKeys := false, apart := false }
def ReplayAnySaid : Prop := replayAnyRow.holds Tryz.pinned (OpenSpec.ofChange replayAnySpec)

/-- ITS FALSE NEIGHBOUR: 'it returns false'. Refute it at one input. -/
def replayAnyWrong : ChangeSpec := { name := "replayAny", fn := fun _ => fun
  | [d1, d2] => { results := [.lit (.bool false)], args := [d1, d2] }
  | _ => none }
def ReplayAnyWrongFalsely : Prop := replayAnyRow.holds Tryz.pinned (OpenSpec.ofChange replayAnyWrong)

/-- 'purserlaw15.PeriodRolls': WHATEVER THE INPUT: true; the input reads as it did. -/
def periodRollsSpec : ChangeSpec := { name := "periodRolls", fn := fun _ => fun
  | [d1, d2, d3] => { results := [.lit (.bool true)], args := [d1, d2, d3] }
  | _ => none }
def periodRollsRow : OpenClaim := { program := "ytniohchnpfpffaagreat", sum := "8016327ac58ea5dcce5758aec9bde8fffad6c2b8b35e60733a8ee9413fa5ba60", func := "purser/purserlaw15.PeriodRolls", spec := "periodRolls", unfollowed := true, recurses := true, plainKeys := false, apart := false }
def PeriodRollsSaid : Prop := periodRollsRow.holds Tryz.pinned (OpenSpec.ofChange periodRollsSpec)

/-- ITS FALSE NEIGHBOUR: 'it returns false'. Refute it at one input. -/
def periodRollsWrong : ChangeSpec := { name := "periodRolls", fn := fun _ => fun
  | [d1, d2, d3] => { results := [.lit (.bool false)], args := [d1, d2, d3] }
  | _ => none }
def PeriodRollsWrongFalsely : Prop := periodRollsRow.holds Tryz.pinned (OpenSpec.ofChange periodRollsWrong)

/-- 'purserlaw15.PeriodActs': WHATEVER THE INPUT: true; the input reads as it did. -/
def periodActsSpec : ChangeSpec := { name := "periodActs", fn := fun _ => fun
  | [d] => { results := [.lit (.bool true)], args := [d] }
  | _ => none }
def periodActsRow : OpenClaim := { program := "ytniohchnpfpffaagreat", sum := "8016327ac58ea5dcce5758aec9bde8fffad6c2b8b35e60733a8ee9413fa5ba60", func := "purser/purserlaw15.PeriodActs", spec := "periodActs", unfollowed := true, recurses := true, plainKeys := false, apart := false }
def PeriodActsSaid : Prop := periodActsRow.holds Tryz.pinned (OpenSpec.ofChange periodActsSpec)

/-- ITS FALSE NEIGHBOUR: 'it returns false'. Refute it at one input. -/
def periodActsWrong : ChangeSpec := { name := "periodActs", fn := fun _ => fun
  | [d] => { results := [.lit (.bool false)], args := [d] }
  | _ => none }
def PeriodActsWrongFalsely : Prop := periodActsRow.holds Tryz.pinned (OpenSpec.ofChange periodActsWrong)

/-- 'purserlaw15.PeriodBalances': WHATEVER THE INPUT: true; the input reads as it did. -/
def periodBalancesSpec : ChangeSpec := { name := "periodBalances", fn := fun _ => fun
  | [d] => { results := [.lit (.bool true)], args := [d] }
  | _ => none }
def periodBalancesRow : OpenClaim := { program := "ytniohchnpfpffaagreat", sum := "8016327ac58ea5dcce5758aec9bde8fffad6c2b8b35e60733a8ee9413fa5ba60", func := "purser/purserlaw15.PeriodBalances", spec := "periodBalances", inPlace := ["math/bits.Add64"], unfollowed := true, recurses := true, plainKeys := false, apart := false }
def PeriodBalancesSaid : Prop := periodBalancesRow.holds Tryz.pinned (OpenSpec.ofChange periodBalancesSpec)

/-- ITS FALSE NEIGHBOUR: 'it returns false'. Refute it at one input. -/
def periodBalancesWrong : ChangeSpec := { name := "periodBalances", fn := fun _ => fun
  | [d] => { results := [.lit (.bool false)], args := [d] }
  | _ => none }
def PeriodBalancesWrongFalsely : Prop := periodBalancesRow.holds Tryz.pinned (OpenSpec.ofChange periodBalancesWrong)

/-- 'purserlaw15.PeriodRestores': WHATEVER THE INPUT: true; the input reads as it did. -/
def periodRestoresSpec : ChangeSpec := { name := "periodRestores", fn := fun _ => fun
  | [d1, d2] => { results := [.lit (.bool true)], args := [d1, d2] }
  | _ => none }
def periodRestoresRow : OpenClaim := { program := "ytniohchnpfpffaagreat", sum := "8016327ac58ea5dcce5758aec9bde8fffad6c2b8b35e60733a8ee9413fa5ba60", func := "purser/purserlaw15.PeriodRestores", spec := "periodRestores", unfollowed := true, recurses := true, plainKeys := false, apart := false }
def PeriodRestoresSaid : Prop := periodRestoresRow.holds Tryz.pinned (OpenSpec.ofChange periodRestoresSpec)

/-- ITS FALSE NEIGHBOUR: 'it returns false'. Refute it at one input. -/
def periodRestoresWrong : ChangeSpec := { name := "periodRestores", fn := fun _ => fun
  | [d1, d2] => { results := [.lit (.bool false)], args := [d1, d2] }
  | _ => none }
def PeriodRestoresWrongFalsely : Prop := periodRestoresRow.holds Tryz.pinned (OpenSpec.ofChange periodRestoresWrong)

/- THE SECOND FORM. 'bulk': how many values and letters a reading holds, each counted each time it is reached (what is shared counts as often as it is met; a slice's spare places count too). A statement '..UptoSaid' is the law's where the arguments, and the package variables that the reading takes, are together of bulk at most 1048576: NARROWER than '..Said'. Prove '..Said' where nothing that the law and all that it calls make is longer than what came in: it says more and counts as full. Else prove '..UptoSaid'. A law counts once. -/
mutual
def uptoBulk {H : Type} : DataW H → Nat
  | .lit (.string bytes) => bytes.length + 1
  | .lit _ => 1
  | .nil => 1
  | .ptr d => uptoBulk d + 1
  | .slice elems spare => uptoBulkAll elems + uptoBulkAll spare + 1
  | .agg parts => uptoBulkAll parts + 1
  | .iface _ d => uptoBulk d + 1
  | .map entries => uptoBulkEntries entries + 1
  | .held _ => 1
def uptoBulkAll {H : Type} : List (DataW H) → Nat
  | [] => 0
  | d :: r => uptoBulk d + uptoBulkAll r
def uptoBulkEntries {H : Type} : List (Lit × DataW H) → Nat
  | [] => 0
  | x :: r => uptoBulkEntry x + uptoBulkEntries r
def uptoBulkEntry {H : Type} : Lit × DataW H → Nat
  | (.string bytes, d) => bytes.length + uptoBulk d + 1
  | (_, d) => uptoBulk d + 1
 end
def uptoSmall : (H : Type) → List (DataW H) → Bool := fun _ ds => decide (uptoBulkAll ds ≤ 1048576)
def OpenSpec.upto (s : _root_.Go.ChangeSpec) : _root_.Go.OpenSpec := { _root_.Go.OpenSpec.ofChange s with cond := some uptoSmall }

/-- 'purserlaw08.JournalJobs', WHERE WHAT IT READS IS OF BULK AT MOST 1048576: true; the input reads as it did. -/
def journalJobsUptoRow : OpenClaim := { program := "ytniohchnpfpffaagreat", sum := "8016327ac58ea5dcce5758aec9bde8fffad6c2b8b35e60733a8ee9413fa5ba60", func := "purser/purserlaw08.JournalJobs", spec := "journalJobs", inPlace := ["math/bits.Add64"], unfollowed := true, recurses := true, plainKeys := false, apart := false, narrowed := true }
def JournalJobsUptoSaid : Prop := journalJobsUptoRow.holds Tryz.pinned (OpenSpec.upto journalJobsSpec)

/-- 'purserlaw28.ReplayAny', WHERE WHAT IT READS IS OF BULK AT MOST 1048576: true; the input reads as it did. -/
def replayAnyUptoRow : OpenClaim := { program := "ytniohchnpfpffaagreat", sum := "8016327ac58ea5dcce5758aec9bde8fffad6c2b8b35e60733a8ee9413fa5ba60", func := "purser/purserlaw28.ReplayAny", spec := "replayAny", unfollowed := true, recurses := true, plainKeys := false, apart := false, narrowed := true }
def ReplayAnyUptoSaid : Prop := replayAnyUptoRow.holds Tryz.pinned (OpenSpec.upto replayAnySpec)

/-- 'purserlaw15.PeriodRolls', WHERE WHAT IT READS IS OF BULK AT MOST 1048576: true; the input reads as it did. -/
def periodRollsUptoRow : OpenClaim := { program := "ytniohchnpfpffaagreat", sum := "8016327ac58ea5dcce5758aec9bde8fffad6c2b8b35e60733a8ee9413fa5ba60", func := "purser/purserlaw15.PeriodRolls", spec := "periodRolls", unfollowed := true, recurses := true, plainKeys := false, apart := false, narrowed := true }
def PeriodRollsUptoSaid : Prop := periodRollsUptoRow.holds Tryz.pinned (OpenSpec.upto periodRollsSpec)

/-- 'purserlaw15.PeriodActs', WHERE WHAT IT READS IS OF BULK AT MOST 1048576: true; the input reads as it did. -/
def periodActsUptoRow : OpenClaim := { program := "ytniohchnpfpffaagreat", sum := "8016327ac58ea5dcce5758aec9bde8fffad6c2b8b35e60733a8ee9413fa5ba60", func := "purser/purserlaw15.PeriodActs", spec := "periodActs", unfollowed := true, recurses := true, plainKeys := false, apart := false, narrowed := true }
def PeriodActsUptoSaid : Prop := periodActsUptoRow.holds Tryz.pinned (OpenSpec.upto periodActsSpec)

/-- 'purserlaw15.PeriodBalances', WHERE WHAT IT READS IS OF BULK AT MOST 1048576: true; the input reads as it did. -/
def periodBalancesUptoRow : OpenClaim := { program := "ytniohchnpfpffaagreat", sum := "8016327ac58ea5dcce5758aec9bde8fffad6c2b8b35e60733a8ee9413fa5ba60", func := "purser/purserlaw15.PeriodBalances", spec := "periodBalances", inPlace := ["math/bits.Add64"], unfollowed := true, recurses := true, plainKeys := false, apart := false, narrowed := true }
def PeriodBalancesUptoSaid : Prop := periodBalancesUptoRow.holds Tryz.pinned (OpenSpec.upto periodBalancesSpec)

/-- 'purserlaw15.PeriodRestores', WHERE WHAT IT READS IS OF BULK AT MOST 1048576: true; the input reads as it did. -/
def periodRestoresUptoRow : OpenClaim := { program := "ytniohchnpfpffaagreat", sum := "8016327ac58ea5dcce5758aec9bde8fffad6c2b8b35e60733a8ee9413fa5ba60", func := "purser/purserlaw15.PeriodRestores", spec := "periodRestores", unfollowed := true, recurses := true, plainKeys := false, apart := false, narrowed := true }
def PeriodRestoresUptoSaid : Prop := periodRestoresUptoRow.holds Tryz.pinned (OpenSpec.upto periodRestoresSpec)

end Rows
end Go.Proofs.YtniohchnpfpffaaGreat
