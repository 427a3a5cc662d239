/-
  No cell of these rows narrows 'for every input' (looked for: loops, veiled, ifaces, maps, wideKeys, modest, calm, conditions, laid).
  DERIVED. THE GIVEN ROWS OF THIS SEAT. 5 by the template 'for every input the law returns true; each argument reads behind the call as it read before'; 0 by the template 'total and deterministic' (their statements: YtijpigojhildgaaTotals.lean).
  GIVEN WITH THE SEED: the statements are not yours to turn. If you find one false, say at which input.
  Laid BY PROGRAM, IN A SANDBOX (cutbox-rows.mjs): the forced cells as the released guide's own fill.sh prints them over the translation afb870f6880e5b16… (all of the seat's roots in one cut). By AI agents, Wed Nov 11 2026. No macro, syntax, notation, axiom, sorry.
-/
import Derived.Test.YtijpigojhildgaaChecked
import GoSem.Claim
import GoSem.ClaimJoined
import GoSem.ClaimMapViews
import Derived.JoinedTies
import Derived.KernelRfl
namespace Go.Proofs.Ytijpigojhildgaa
/- THE CELL 'sum', in the pinned program and in every row, IS THE sha256 OF THE DUMP (.gsa) THAT YtijpigojhildgaaProg.lean LOADS. Nothing in Lean hashes anything: it is a label: what it is worth is what the hold of that sum in a sandbox is worth. -/
noncomputable def Try.pinned : Pinned := { name := "ytijpigojhildgaa", sum := "afb870f6880e5b16e716efea1dd21fd2df385b7ea98d537941e36639ae6f49c1", checked := Try.checked }
namespace Rows
def none {H : Type} : Left H := { results := [], args := [] }

/-- 'purserlaw10.TierMerges': WHATEVER THE INPUT: true; the input reads as it did. -/
def tierMergesSpec : ChangeSpec := { name := "tierMerges", fn := fun _ => fun
  | [d1, d2] => { results := [.lit (.bool true)], args := [d1, d2] }
  | _ => none }
def tierMergesRow : OpenClaim := { program := "ytijpigojhildgaa", sum := "afb870f6880e5b16e716efea1dd21fd2df385b7ea98d537941e36639ae6f49c1", func := "purser/purserlaw10.TierMerges", spec := "tierMerges", inPlace := ["math/bits.Add64"], unfollowed := true, recurses := true, plainKeys := false, apart := false }
def TierMergesSaid : Prop := tierMergesRow.holds Try.pinned (OpenSpec.ofChange tierMergesSpec)

/-- ITS FALSE NEIGHBOUR: 'it returns false'. Refute it at one input. -/
def tierMergesWrong : ChangeSpec := { name := "tierMerges", fn := fun _ => fun
  | [d1, d2] => { results := [.lit (.bool false)], args := [d1, d2] }
  | _ => none }
def TierMergesWrongFalsely : Prop := tierMergesRow.holds Try.pinned (OpenSpec.ofChange tierMergesWrong)

/-- 'purserlaw10.TierWhole': WHATEVER THE INPUT: true; the input reads as it did. -/
def tierWholeSpec : ChangeSpec := { name := "tierWhole", fn := fun _ => fun
  | [d1, d2, d3] => { results := [.lit (.bool true)], args := [d1, d2, d3] }
  | _ => none }
def tierWholeRow : OpenClaim := { program := "ytijpigojhildgaa", sum := "afb870f6880e5b16e716efea1dd21fd2df385b7ea98d537941e36639ae6f49c1", func := "purser/purserlaw10.TierWhole", spec := "tierWhole", inPlace := ["math/bits.Add64"], unfollowed := true, recurses := true, plainKeys := false, apart := false }
def TierWholeSaid : Prop := tierWholeRow.holds Try.pinned (OpenSpec.ofChange tierWholeSpec)

/-- ITS FALSE NEIGHBOUR: 'it returns false'. Refute it at one input. -/
def tierWholeWrong : ChangeSpec := { name := "tierWhole", fn := fun _ => fun
  | [d1, d2, d3] => { results := [.lit (.bool false)], args := [d1, d2, d3] }
  | _ => none }
def TierWholeWrongFalsely : Prop := tierWholeRow.holds Try.pinned (OpenSpec.ofChange tierWholeWrong)

/-- 'purserlaw20.UsageMany': WHATEVER THE INPUT: true; the input reads as it did. -/
def usageManySpec : ChangeSpec := { name := "usageMany", fn := fun _ => fun
  | [d1, d2] => { results := [.lit (.bool true)], args := [d1, d2] }
  | _ => none }
def usageManyRow : OpenClaim := { program := "ytijpigojhildgaa", sum := "afb870f6880e5b16e716efea1dd21fd2df385b7ea98d537941e36639ae6f49c1", func := "purser/purserlaw20.UsageMany", spec := "usageMany", inPlace := ["math/bits.Add64"], unfollowed := true, recurses := true, plainKeys := false, apart := false }
def UsageManySaid : Prop := usageManyRow.holds Try.pinned (OpenSpec.ofChange usageManySpec)

/-- ITS FALSE NEIGHBOUR: 'it returns false'. Refute it at one input. -/
def usageManyWrong : ChangeSpec := { name := "usageMany", fn := fun _ => fun
  | [d1, d2] => { results := [.lit (.bool false)], args := [d1, d2] }
  | _ => none }
def UsageManyWrongFalsely : Prop := usageManyRow.holds Try.pinned (OpenSpec.ofChange usageManyWrong)

/-- 'purserlaw20.UsageParts': WHATEVER THE INPUT: true; the input reads as it did. -/
def usagePartsSpec : ChangeSpec := { name := "usageParts", fn := fun _ => fun
  | [d1, d2] => { results := [.lit (.bool true)], args := [d1, d2] }
  | _ => none }
def usagePartsRow : OpenClaim := { program := "ytijpigojhildgaa", sum := "afb870f6880e5b16e716efea1dd21fd2df385b7ea98d537941e36639ae6f49c1", func := "purser/purserlaw20.UsageParts", spec := "usageParts", inPlace := ["math/bits.Add64"], unfollowed := true, recurses := true, plainKeys := false, apart := false }
def UsagePartsSaid : Prop := usagePartsRow.holds Try.pinned (OpenSpec.ofChange usagePartsSpec)

/-- ITS FALSE NEIGHBOUR: 'it returns false'. Refute it at one input. -/
def usagePartsWrong : ChangeSpec := { name := "usageParts", fn := fun _ => fun
  | [d1, d2] => { results := [.lit (.bool false)], args := [d1, d2] }
  | _ => none }
def UsagePartsWrongFalsely : Prop := usagePartsRow.holds Try.pinned (OpenSpec.ofChange usagePartsWrong)

/-- 'purserlaw20.UsageReads': WHATEVER THE INPUT: true; the input reads as it did. -/
def usageReadsSpec : ChangeSpec := { name := "usageReads", fn := fun _ => fun
  | [d] => { results := [.lit (.bool true)], args := [d] }
  | _ => none }
def usageReadsRow : OpenClaim := { program := "ytijpigojhildgaa", sum := "afb870f6880e5b16e716efea1dd21fd2df385b7ea98d537941e36639ae6f49c1", func := "purser/purserlaw20.UsageReads", spec := "usageReads", inPlace := ["math/bits.Add64"], unfollowed := true, recurses := true, plainKeys := false, apart := false }
def UsageReadsSaid : Prop := usageReadsRow.holds Try.pinned (OpenSpec.ofChange usageReadsSpec)

/-- ITS FALSE NEIGHBOUR: 'it returns false'. Refute it at one input. -/
def usageReadsWrong : ChangeSpec := { name := "usageReads", fn := fun _ => fun
  | [d] => { results := [.lit (.bool false)], args := [d] }
  | _ => none }
def UsageReadsWrongFalsely : Prop := usageReadsRow.holds Try.pinned (OpenSpec.ofChange usageReadsWrong)

/- THE SECOND FORM. 'bulk': how many values and letters a reading holds, each counted each time it is reached (what is shared counts as often as it is met; a slice's spare places count too). A statement '..UptoSaid' is the law's where the arguments, and the package variables that the reading takes, are together of bulk at most 1048576: NARROWER than '..Said'. Prove '..Said' where nothing that the law and all that it calls make is longer than what came in: it says more and counts as full. Else prove '..UptoSaid'. A law counts once. -/
mutual
def uptoBulk {H : Type} : DataW H → Nat
  | .lit (.string bytes) => bytes.length + 1
  | .lit _ => 1
  | .nil => 1
  | .ptr d => uptoBulk d + 1
  | .slice elems spare => uptoBulkAll elems + uptoBulkAll spare + 1
  | .agg parts => uptoBulkAll parts + 1
  | .iface _ d => uptoBulk d + 1
  | .map entries => uptoBulkEntries entries + 1
  | .held _ => 1
def uptoBulkAll {H : Type} : List (DataW H) → Nat
  | [] => 0
  | d :: r => uptoBulk d + uptoBulkAll r
def uptoBulkEntries {H : Type} : List (Lit × DataW H) → Nat
  | [] => 0
  | x :: r => uptoBulkEntry x + uptoBulkEntries r
def uptoBulkEntry {H : Type} : Lit × DataW H → Nat
  | (.string bytes, d) => bytes.length + uptoBulk d + 1
  | (_, d) => uptoBulk d + 1
 end
def uptoSmall : (H : Type) → List (DataW H) → Bool := fun _ ds => decide (uptoBulkAll ds ≤ 1048576)
def OpenSpec.upto (s : _root_.Go.ChangeSpec) : _root_.Go.OpenSpec := { _root_.Go.OpenSpec.ofChange s with cond := some uptoSmall }

/-- 'purserlaw10.TierMerges', WHERE WHAT IT READS IS OF BULK AT MOST 1048576: true; the input reads as it did. -/
def tierMergesUptoRow : OpenClaim := { program := "ytijpigojhildgaa", sum := "afb870f6880e5b16e716efea1dd21fd2df385b7ea98d537941e36639ae6f49c1", func := "purser/purserlaw10.TierMerges", spec := "tierMerges", inPlace := ["math/bits.Add64"], unfollowed := true, recurses := true, plainKeys := false, apart := false, narrowed := true }
def TierMergesUptoSaid : Prop := tierMergesUptoRow.holds Try.pinned (OpenSpec.upto tierMergesSpec)

/-- 'purserlaw10.TierWhole', WHERE WHAT IT READS IS OF BULK AT MOST 1048576: true; the input reads as it did. -/
def tierWholeUptoRow : OpenClaim := { program := "ytijpigojhildgaa", sum := "afb870f6880e5b16e716efea1dd21fd2df385b7ea98d537941e36639ae6f49c1", func := "purser/purserlaw10.TierWhole", spec := "tierWhole", inPlace := ["math/bits.Add64"], unfollowed := true, recurses := true, plainKeys := false, apart := false, narrowed := true }
def TierWholeUptoSaid : Prop := tierWholeUptoRow.holds Try.pinned (OpenSpec.upto tierWholeSpec)

/-- 'purserlaw20.UsageMany', WHERE WHAT IT READS IS OF BULK AT MOST 1048576: true; the input reads as it did. -/
def usageManyUptoRow : OpenClaim := { program := "ytijpigojhildgaa", sum := "afb870f6880e5b16e716efea1dd21fd2df385b7ea98d537941e36639ae6f49c1", func := "purser/purserlaw20.UsageMany", spec := "usageMany", inPlace := ["math/bits.Add64"], unfollowed := true, recurses := true, plainKeys := false, apart := false, narrowed := true }
def UsageManyUptoSaid : Prop := usageManyUptoRow.holds Try.pinned (OpenSpec.upto usageManySpec)

/-- 'purserlaw20.UsageParts', WHERE WHAT IT READS IS OF BULK AT MOST 1048576: true; the input reads as it did. -/
def usagePartsUptoRow : OpenClaim := { program := "ytijpigojhildgaa", sum := "afb870f6880e5b16e716efea1dd21fd2df385b7ea98d537941e36639ae6f49c1", func := "purser/purserlaw20.UsageParts", spec := "usageParts", inPlace := ["math/bits.Add64"], unfollowed := true, recurses := true, plainKeys := false, apart := false, narrowed := true }
def UsagePartsUptoSaid : Prop := usagePartsUptoRow.holds Try.pinned (OpenSpec.upto usagePartsSpec)

/-- 'purserlaw20.UsageReads', WHERE WHAT IT READS IS OF BULK AT MOST 1048576: true; the input reads as it did. -/
def usageReadsUptoRow : OpenClaim := { program := "ytijpigojhildgaa", sum := "afb870f6880e5b16e716efea1dd21fd2df385b7ea98d537941e36639ae6f49c1", func := "purser/purserlaw20.UsageReads", spec := "usageReads", inPlace := ["math/bits.Add64"], unfollowed := true, recurses := true, plainKeys := false, apart := false, narrowed := true }
def UsageReadsUptoSaid : Prop := usageReadsUptoRow.holds Try.pinned (OpenSpec.upto usageReadsSpec)

end Rows
end Go.Proofs.Ytijpigojhildgaa
