/-
  No cell of these rows narrows 'for every input' (looked for: loops, veiled, ifaces, maps, wideKeys, modest, calm, conditions, laid).
  DERIVED. THE GIVEN ROWS OF THIS SEAT. 10 by the template 'for every input the law returns true; each argument reads behind the call as it read before'; 0 by the template 'total and deterministic' (their statements: YthlimkmjobpjoaaGreatTotals.lean).
  GIVEN WITH THE SEED: the statements are not yours to turn. If you find one false, say at which input.
  Laid BY PROGRAM, IN A SANDBOX (cutbox-rows.mjs): the forced cells as the released guide's own fill.sh prints them over the translation ef991a1c829345d4… (all of the seat's roots in one cut). By AI agents, Wed Nov 11 2026. No macro, syntax, notation, axiom, sorry.
-/
import Derived.Test.YthlimkmjobpjoaaGreatChecked
import GoSem.Claim
import GoSem.ClaimJoined
import GoSem.ClaimMapViews
import Derived.JoinedTies
import Derived.KernelRfl
namespace Go.Proofs.YthlimkmjobpjoaaGreat
/- THE CELL 'sum', in the pinned program and in every row, IS THE sha256 OF THE DUMP (.gsa) THAT YthlimkmjobpjoaaGreatProg.lean LOADS. Nothing in Lean hashes anything: it is a label: what it is worth is what the hold of that sum in a sandbox is worth. -/
noncomputable def Tryz.pinned : Pinned := { name := "ythlimkmjobpjoaagreat", sum := "ef991a1c829345d4072ba804d072a9b9b3490845939507dc4588084518921e96", checked := Tryz.checked }
namespace Rows
def none {H : Type} : Left H := { results := [], args := [] }

/-- 'sleuthlaw19.AttributionAddsUp': WHATEVER THE INPUT: true; the input reads as it did. -/
def attributionAddsUpSpec : ChangeSpec := { name := "attributionAddsUp", fn := fun _ => fun
  | [d1, d2, d3] => { results := [.lit (.bool true)], args := [d1, d2, d3] }
  | _ => none }
def attributionAddsUpRow : OpenClaim := { program := "ythlimkmjobpjoaagreat", sum := "ef991a1c829345d4072ba804d072a9b9b3490845939507dc4588084518921e96", func := "sleuth/sleuthlaw19.AttributionAddsUp", spec := "attributionAddsUp", unfollowed := true, recurses := true, plainKeys := false, apart := false }
def AttributionAddsUpSaid : Prop := attributionAddsUpRow.holds Tryz.pinned (OpenSpec.ofChange attributionAddsUpSpec)

/-- ITS FALSE NEIGHBOUR: 'it returns false'. Refute it at one input. -/
def attributionAddsUpWrong : ChangeSpec := { name := "attributionAddsUp", fn := fun _ => fun
  | [d1, d2, d3] => { results := [.lit (.bool false)], args := [d1, d2, d3] }
  | _ => none }
def AttributionAddsUpWrongFalsely : Prop := attributionAddsUpRow.holds Tryz.pinned (OpenSpec.ofChange attributionAddsUpWrong)

/-- 'sleuthlaw19.AttributionErrors': WHATEVER THE INPUT: true; the input reads as it did. -/
def attributionErrorsSpec : ChangeSpec := { name := "attributionErrors", fn := fun _ => fun
  | [d1, d2, d3] => { results := [.lit (.bool true)], args := [d1, d2, d3] }
  | _ => none }
def attributionErrorsRow : OpenClaim := { program := "ythlimkmjobpjoaagreat", sum := "ef991a1c829345d4072ba804d072a9b9b3490845939507dc4588084518921e96", func := "sleuth/sleuthlaw19.AttributionErrors", spec := "attributionErrors", unfollowed := true, recurses := true, plainKeys := false, apart := false }
def AttributionErrorsSaid : Prop := attributionErrorsRow.holds Tryz.pinned (OpenSpec.ofChange attributionErrorsSpec)

/-- ITS FALSE NEIGHBOUR: 'it returns false'. Refute it at one input. -/
def attributionErrorsWrong : ChangeSpec := { name := "attributionErrors", fn := fun _ => fun
  | [d1, d2, d3] => { results := [.lit (.bool false)], args := [d1, d2, d3] }
  | _ => none }
def AttributionErrorsWrongFalsely : Prop := attributionErrorsRow.holds Tryz.pinned (OpenSpec.ofChange attributionErrorsWrong)

/-- 'sleuthlaw19.AttributionOrigins': WHATEVER THE INPUT: true; the input reads as it did. -/
def attributionOriginsSpec : ChangeSpec := { name := "attributionOrigins", fn := fun _ => fun
  | [d1, d2, d3] => { results := [.lit (.bool true)], args := [d1, d2, d3] }
  | _ => none }
def attributionOriginsRow : OpenClaim := { program := "ythlimkmjobpjoaagreat", sum := "ef991a1c829345d4072ba804d072a9b9b3490845939507dc4588084518921e96", func := "sleuth/sleuthlaw19.AttributionOrigins", spec := "attributionOrigins", unfollowed := true, recurses := true, plainKeys := false, apart := false }
def AttributionOriginsSaid : Prop := attributionOriginsRow.holds Tryz.pinned (OpenSpec.ofChange attributionOriginsSpec)

/-- ITS FALSE NEIGHBOUR: 'it returns false'. Refute it at one input. -/
def attributionOriginsWrong : ChangeSpec := { name := "attributionOrigins", fn := fun _ => fun
  | [d1, d2, d3] => { results := [.lit (.bool false)], args := [d1, d2, d3] }
  | _ => none }
def AttributionOriginsWrongFalsely : Prop := attributionOriginsRow.holds Tryz.pinned (OpenSpec.ofChange attributionOriginsWrong)

/-- 'sleuthlaw19.AttributionCycles': WHATEVER THE INPUT: true; the input reads as it did. -/
def attributionCyclesSpec : ChangeSpec := { name := "attributionCycles", fn := fun _ => fun
  | [d] => { results := [.lit (.bool true)], args := [d] }
  | _ => none }
def attributionCyclesRow : OpenClaim := { program := "ythlimkmjobpjoaagreat", sum := "ef991a1c829345d4072ba804d072a9b9b3490845939507dc4588084518921e96", func := "sleuth/sleuthlaw19.AttributionCycles", spec := "attributionCycles", unfollowed := true, recurses := true, plainKeys := false, apart := false }
def AttributionCyclesSaid : Prop := attributionCyclesRow.holds Tryz.pinned (OpenSpec.ofChange attributionCyclesSpec)

/-- ITS FALSE NEIGHBOUR: 'it returns false'. Refute it at one input. -/
def attributionCyclesWrong : ChangeSpec := { name := "attributionCycles", fn := fun _ => fun
  | [d] => { results := [.lit (.bool false)], args := [d] }
  | _ => none }
def AttributionCyclesWrongFalsely : Prop := attributionCyclesRow.holds Tryz.pinned (OpenSpec.ofChange attributionCyclesWrong)

/-- 'sleuthlaw19.AttributionTimes': WHATEVER THE INPUT: true; the input reads as it did. -/
def attributionTimesSpec : ChangeSpec := { name := "attributionTimes", fn := fun _ => fun
  | [d1, d2, d3] => { results := [.lit (.bool true)], args := [d1, d2, d3] }
  | _ => none }
def attributionTimesRow : OpenClaim := { program := "ythlimkmjobpjoaagreat", sum := "ef991a1c829345d4072ba804d072a9b9b3490845939507dc4588084518921e96", func := "sleuth/sleuthlaw19.AttributionTimes", spec := "attributionTimes", unfollowed := true, recurses := true, plainKeys := false, apart := false }
def AttributionTimesSaid : Prop := attributionTimesRow.holds Tryz.pinned (OpenSpec.ofChange attributionTimesSpec)

/-- ITS FALSE NEIGHBOUR: 'it returns false'. Refute it at one input. -/
def attributionTimesWrong : ChangeSpec := { name := "attributionTimes", fn := fun _ => fun
  | [d1, d2, d3] => { results := [.lit (.bool false)], args := [d1, d2, d3] }
  | _ => none }
def AttributionTimesWrongFalsely : Prop := attributionTimesRow.holds Tryz.pinned (OpenSpec.ofChange attributionTimesWrong)

/-- 'sleuthlaw19.AttributionChecks': WHATEVER THE INPUT: true; the input reads as it did. -/
def attributionChecksSpec : ChangeSpec := { name := "attributionChecks", fn := fun _ => fun
  | [d1, d2] => { results := [.lit (.bool true)], args := [d1, d2] }
  | _ => none }
def attributionChecksRow : OpenClaim := { program := "ythlimkmjobpjoaagreat", sum := "ef991a1c829345d4072ba804d072a9b9b3490845939507dc4588084518921e96", func := "sleuth/sleuthlaw19.AttributionChecks", spec := "attributionChecks", unfollowed := true, recurses := true, plainKeys := false, apart := false }
def AttributionChecksSaid : Prop := attributionChecksRow.holds Tryz.pinned (OpenSpec.ofChange attributionChecksSpec)

/-- ITS FALSE NEIGHBOUR: 'it returns false'. Refute it at one input. -/
def attributionChecksWrong : ChangeSpec := { name := "attributionChecks", fn := fun _ => fun
  | [d1, d2] => { results := [.lit (.bool false)], args := [d1, d2] }
  | _ => none }
def AttributionChecksWrongFalsely : Prop := attributionChecksRow.holds Tryz.pinned (OpenSpec.ofChange attributionChecksWrong)

/-- 'sleuthlaw19.AttributionMerges': WHATEVER THE INPUT: true; the input reads as it did. -/
def attributionMergesSpec : ChangeSpec := { name := "attributionMerges", fn := fun _ => fun
  | [d1, d2, d3] => { results := [.lit (.bool true)], args := [d1, d2, d3] }
  | _ => none }
def attributionMergesRow : OpenClaim := { program := "ythlimkmjobpjoaagreat", sum := "ef991a1c829345d4072ba804d072a9b9b3490845939507dc4588084518921e96", func := "sleuth/sleuthlaw19.AttributionMerges", spec := "attributionMerges", unfollowed := true, recurses := true, plainKeys := false, apart := false }
def AttributionMergesSaid : Prop := attributionMergesRow.holds Tryz.pinned (OpenSpec.ofChange attributionMergesSpec)

/-- ITS FALSE NEIGHBOUR: 'it returns false'. Refute it at one input. -/
def attributionMergesWrong : ChangeSpec := { name := "attributionMerges", fn := fun _ => fun
  | [d1, d2, d3] => { results := [.lit (.bool false)], args := [d1, d2, d3] }
  | _ => none }
def AttributionMergesWrongFalsely : Prop := attributionMergesRow.holds Tryz.pinned (OpenSpec.ofChange attributionMergesWrong)

/-- 'sleuthlaw19.AttributionLevels': WHATEVER THE INPUT: true; the input reads as it did. -/
def attributionLevelsSpec : ChangeSpec := { name := "attributionLevels", fn := fun _ => fun
  | [d1, d2, d3] => { results := [.lit (.bool true)], args := [d1, d2, d3] }
  | _ => none }
def attributionLevelsRow : OpenClaim := { program := "ythlimkmjobpjoaagreat", sum := "ef991a1c829345d4072ba804d072a9b9b3490845939507dc4588084518921e96", func := "sleuth/sleuthlaw19.AttributionLevels", spec := "attributionLevels", unfollowed := true, recurses := true, plainKeys := false, apart := false }
def AttributionLevelsSaid : Prop := attributionLevelsRow.holds Tryz.pinned (OpenSpec.ofChange attributionLevelsSpec)

/-- ITS FALSE NEIGHBOUR: 'it returns false'. Refute it at one input. -/
def attributionLevelsWrong : ChangeSpec := { name := "attributionLevels", fn := fun _ => fun
  | [d1, d2, d3] => { results := [.lit (.bool false)], args := [d1, d2, d3] }
  | _ => none }
def AttributionLevelsWrongFalsely : Prop := attributionLevelsRow.holds Tryz.pinned (OpenSpec.ofChange attributionLevelsWrong)

/-- 'sleuthlaw19.AttributionWide': WHATEVER THE INPUT: true; the input reads as it did. -/
def attributionWideSpec : ChangeSpec := { name := "attributionWide", fn := fun _ => fun
  | [d1, d2] => { results := [.lit (.bool true)], args := [d1, d2] }
  | _ => none }
def attributionWideRow : OpenClaim := { program := "ythlimkmjobpjoaagreat", sum := "ef991a1c829345d4072ba804d072a9b9b3490845939507dc4588084518921e96", func := "sleuth/sleuthlaw19.AttributionWide", spec := "attributionWide", unfollowed := true, recurses := true, named := ["math/bits.divideError", "math/bits.overflowError"], plainKeys := false, apart := false }
def AttributionWideSaid : Prop := attributionWideRow.holds Tryz.pinned (OpenSpec.ofChange attributionWideSpec)

/-- ITS FALSE NEIGHBOUR: 'it returns false'. Refute it at one input. -/
def attributionWideWrong : ChangeSpec := { name := "attributionWide", fn := fun _ => fun
  | [d1, d2] => { results := [.lit (.bool false)], args := [d1, d2] }
  | _ => none }
def AttributionWideWrongFalsely : Prop := attributionWideRow.holds Tryz.pinned (OpenSpec.ofChange attributionWideWrong)

/-- 'sleuthlaw19.AttributionShares': WHATEVER THE INPUT: true; the input reads as it did. -/
def attributionSharesSpec : ChangeSpec := { name := "attributionShares", fn := fun _ => fun
  | [d1, d2] => { results := [.lit (.bool true)], args := [d1, d2] }
  | _ => none }
def attributionSharesRow : OpenClaim := { program := "ythlimkmjobpjoaagreat", sum := "ef991a1c829345d4072ba804d072a9b9b3490845939507dc4588084518921e96", func := "sleuth/sleuthlaw19.AttributionShares", spec := "attributionShares", unfollowed := true, recurses := true, named := ["math/bits.divideError", "math/bits.overflowError"], plainKeys := false, apart := false }
def AttributionSharesSaid : Prop := attributionSharesRow.holds Tryz.pinned (OpenSpec.ofChange attributionSharesSpec)

/-- ITS FALSE NEIGHBOUR: 'it returns false'. Refute it at one input. -/
def attributionSharesWrong : ChangeSpec := { name := "attributionShares", fn := fun _ => fun
  | [d1, d2] => { results := [.lit (.bool false)], args := [d1, d2] }
  | _ => none }
def AttributionSharesWrongFalsely : Prop := attributionSharesRow.holds Tryz.pinned (OpenSpec.ofChange attributionSharesWrong)

/- THE SECOND FORM. 'bulk': how many values and letters a reading holds, each counted each time it is reached (what is shared counts as often as it is met; a slice's spare places count too). A statement '..UptoSaid' is the law's where the arguments, and the package variables that the reading takes, are together of bulk at most 1048576: NARROWER than '..Said'. Prove '..Said' where nothing that the law and all that it calls make is longer than what came in: it says more and counts as full. Else prove '..UptoSaid'. A law counts once. -/
mutual
def uptoBulk {H : Type} : DataW H → Nat
  | .lit (.string bytes) => bytes.length + 1
  | .lit _ => 1
  | .nil => 1
  | .ptr d => uptoBulk d + 1
  | .slice elems spare => uptoBulkAll elems + uptoBulkAll spare + 1
  | .agg parts => uptoBulkAll parts + 1
  | .iface _ d => uptoBulk d + 1
  | .map entries => uptoBulkEntries entries + 1
  | .held _ => 1
def uptoBulkAll {H : Type} : List (DataW H) → Nat
  | [] => 0
  | d :: r => uptoBulk d + uptoBulkAll r
def uptoBulkEntries {H : Type} : List (Lit × DataW H) → Nat
  | [] => 0
  | x :: r => uptoBulkEntry x + uptoBulkEntries r
def uptoBulkEntry {H : Type} : Lit × DataW H → Nat
  | (.string bytes, d) => bytes.length + uptoBulk d + 1
  | (_, d) => uptoBulk d + 1
 end
def uptoSmall : (H : Type) → List (DataW H) → Bool := fun _ ds => decide (uptoBulkAll ds ≤ 1048576)
def OpenSpec.upto (s : _root_.Go.ChangeSpec) : _root_.Go.OpenSpec := { _root_.Go.OpenSpec.ofChange s with cond := some uptoSmall }

/-- 'sleuthlaw19.AttributionAddsUp', WHERE WHAT IT READS IS OF BULK AT MOST 1048576: true; the input reads as it did. -/
def attributionAddsUpUptoRow : OpenClaim := { program := "ythlimkmjobpjoaagreat", sum := "ef991a1c829345d4072ba804d072a9b9b3490845939507dc4588084518921e96", func := "sleuth/sleuthlaw19.AttributionAddsUp", spec := "attributionAddsUp", unfollowed := true, recurses := true, plainKeys := false, apart := false, narrowed := true }
def AttributionAddsUpUptoSaid : Prop := attributionAddsUpUptoRow.holds Tryz.pinned (OpenSpec.upto attributionAddsUpSpec)

/-- 'sleuthlaw19.AttributionErrors', WHERE WHAT IT READS IS OF BULK AT MOST 1048576: true; the input reads as it did. -/
def attributionErrorsUptoRow : OpenClaim := { program := "ythlimkmjobpjoaagreat", sum := "ef991a1c829345d4072ba804d072a9b9b3490845939507dc4588084518921e96", func := "sleuth/sleuthlaw19.AttributionErrors", spec := "attributionErrors", unfollowed := true, recurses := true, plainKeys := false, apart := false, narrowed := true }
def AttributionErrorsUptoSaid : Prop := attributionErrorsUptoRow.holds Tryz.pinned (OpenSpec.upto attributionErrorsSpec)

/-- 'sleuthlaw19.AttributionOrigins', WHERE WHAT IT READS IS OF BULK AT MOST 1048576: true; the input reads as it did. -/
def attributionOriginsUptoRow : OpenClaim := { program := "ythlimkmjobpjoaagreat", sum := "ef991a1c829345d4072ba804d072a9b9b3490845939507dc4588084518921e96", func := "sleuth/sleuthlaw19.AttributionOrigins", spec := "attributionOrigins", unfollowed := true, recurses := true, plainKeys := false, apart := false, narrowed := true }
def AttributionOriginsUptoSaid : Prop := attributionOriginsUptoRow.holds Tryz.pinned (OpenSpec.upto attributionOriginsSpec)

/-- 'sleuthlaw19.AttributionCycles', WHERE WHAT IT READS IS OF BULK AT MOST 1048576: true; the input reads as it did. -/
def attributionCyclesUptoRow : OpenClaim := { program := "ythlimkmjobpjoaagreat", sum := "ef991a1c829345d4072ba804d072a9b9b3490845939507dc4588084518921e96", func := "sleuth/sleuthlaw19.AttributionCycles", spec := "attributionCycles", unfollowed := true, recurses := true, plainKeys := false, apart := false, narrowed := true }
def AttributionCyclesUptoSaid : Prop := attributionCyclesUptoRow.holds Tryz.pinned (OpenSpec.upto attributionCyclesSpec)

/-- 'sleuthlaw19.AttributionTimes', WHERE WHAT IT READS IS OF BULK AT MOST 1048576: true; the input reads as it did. -/
def attributionTimesUptoRow : OpenClaim := { program := "ythlimkmjobpjoaagreat", sum := "ef991a1c829345d4072ba804d072a9b9b3490845939507dc4588084518921e96", func := "sleuth/sleuthlaw19.AttributionTimes", spec := "attributionTimes", unfollowed := true, recurses := true, plainKeys := false, apart := false, narrowed := true }
def AttributionTimesUptoSaid : Prop := attributionTimesUptoRow.holds Tryz.pinned (OpenSpec.upto attributionTimesSpec)

/-- 'sleuthlaw19.AttributionChecks', WHERE WHAT IT READS IS OF BULK AT MOST 1048576: true; the input reads as it did. -/
def attributionChecksUptoRow : OpenClaim := { program := "ythlimkmjobpjoaagreat", sum := "ef991a1c829345d4072ba804d072a9b9b3490845939507dc4588084518921e96", func := "sleuth/sleuthlaw19.AttributionChecks", spec := "attributionChecks", unfollowed := true, recurses := true, plainKeys := false, apart := false, narrowed := true }
def AttributionChecksUptoSaid : Prop := attributionChecksUptoRow.holds Tryz.pinned (OpenSpec.upto attributionChecksSpec)

/-- 'sleuthlaw19.AttributionMerges', WHERE WHAT IT READS IS OF BULK AT MOST 1048576: true; the input reads as it did. -/
def attributionMergesUptoRow : OpenClaim := { program := "ythlimkmjobpjoaagreat", sum := "ef991a1c829345d4072ba804d072a9b9b3490845939507dc4588084518921e96", func := "sleuth/sleuthlaw19.AttributionMerges", spec := "attributionMerges", unfollowed := true, recurses := true, plainKeys := false, apart := false, narrowed := true }
def AttributionMergesUptoSaid : Prop := attributionMergesUptoRow.holds Tryz.pinned (OpenSpec.upto attributionMergesSpec)

/-- 'sleuthlaw19.AttributionLevels', WHERE WHAT IT READS IS OF BULK AT MOST 1048576: true; the input reads as it did. -/
def attributionLevelsUptoRow : OpenClaim := { program := "ythlimkmjobpjoaagreat", sum := "ef991a1c829345d4072ba804d072a9b9b3490845939507dc4588084518921e96", func := "sleuth/sleuthlaw19.AttributionLevels", spec := "attributionLevels", unfollowed := true, recurses := true, plainKeys := false, apart := false, narrowed := true }
def AttributionLevelsUptoSaid : Prop := attributionLevelsUptoRow.holds Tryz.pinned (OpenSpec.upto attributionLevelsSpec)

/-- 'sleuthlaw19.AttributionWide', WHERE WHAT IT READS IS OF BULK AT MOST 1048576: true; the input reads as it did. -/
def attributionWideUptoRow : OpenClaim := { program := "ythlimkmjobpjoaagreat", sum := "ef991a1c829345d4072ba804d072a9b9b3490845939507dc4588084518921e96", func := "sleuth/sleuthlaw19.AttributionWide", spec := "attributionWide", unfollowed := true, recurses := true, named := ["math/bits.divideError", "math/bits.overflowError"], plainKeys := false, apart := false, narrowed := true }
def AttributionWideUptoSaid : Prop := attributionWideUptoRow.holds Tryz.pinned (OpenSpec.upto attributionWideSpec)

/-- 'sleuthlaw19.AttributionShares', WHERE WHAT IT READS IS OF BULK AT MOST 1048576: true; the input reads as it did. -/
def attributionSharesUptoRow : OpenClaim := { program := "ythlimkmjobpjoaagreat", sum := "ef991a1c829345d4072ba804d072a9b9b3490845939507dc4588084518921e96", func := "sleuth/sleuthlaw19.AttributionShares", spec := "attributionShares", unfollowed := true, recurses := true, named := ["math/bits.divideError", "math/bits.overflowError"], plainKeys := false, apart := false, narrowed := true }
def AttributionSharesUptoSaid : Prop := attributionSharesUptoRow.holds Tryz.pinned (OpenSpec.upto attributionSharesSpec)

end Rows
end Go.Proofs.YthlimkmjobpjoaaGreat
