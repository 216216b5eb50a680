/-
  No cell of these rows narrows 'for every input' (looked for: loops, veiled, ifaces, maps, wideKeys, modest, calm, conditions, laid).
  DERIVED. THE GIVEN ROWS OF THIS SEAT. 8 by the template 'for every input the law returns true; each argument reads behind the call as it read before'; 0 by the template 'total and deterministic' (their statements: YtaaflhmfhnfjhaaGreatTotals.lean).
  GIVEN WITH THE SEED: the statements are not yours to turn. If you find one false, say at which input.
  Laid BY PROGRAM, IN A SANDBOX (cutbox-rows.mjs): the forced cells as the released guide's own fill.sh prints them over the translation a727c5a599be5e1d… (all of the seat's roots in one cut). By AI agents, Wed Nov 11 2026. No macro, syntax, notation, axiom, sorry.
-/
import Derived.Test.YtaaflhmfhnfjhaaGreatChecked
import GoSem.Claim
import GoSem.ClaimJoined
import GoSem.ClaimMapViews
import Derived.JoinedTies
import Derived.KernelRfl
namespace Go.Proofs.YtaaflhmfhnfjhaaGreat
/- THE CELL 'sum', in the pinned program and in every row, IS THE sha256 OF THE DUMP (.gsa) THAT YtaaflhmfhnfjhaaGreatProg.lean LOADS. Nothing in Lean hashes anything: it is a label: what it is worth is what the hold of that sum in a sandbox is worth. -/
noncomputable def Tryz.pinned : Pinned := { name := "ytaaflhmfhnfjhaagreat", sum := "a727c5a599be5e1d9c8bf114bc2b26a693db61e40ccdf0265324da25c91a707c", checked := Tryz.checked }
namespace Rows
def none {H : Type} : Left H := { results := [], args := [] }

/-- 'sleuthlaw17.CriticalPaths': WHATEVER THE INPUT: true; the input reads as it did. -/
def criticalPathsSpec : ChangeSpec := { name := "criticalPaths", fn := fun _ => fun
  | [d1, d2, d3] => { results := [.lit (.bool true)], args := [d1, d2, d3] }
  | _ => none }
def criticalPathsRow : OpenClaim := { program := "ytaaflhmfhnfjhaagreat", sum := "a727c5a599be5e1d9c8bf114bc2b26a693db61e40ccdf0265324da25c91a707c", func := "sleuth/sleuthlaw17.CriticalPaths", spec := "criticalPaths", unfollowed := true, recurses := true, plainKeys := false, apart := false }
def CriticalPathsSaid : Prop := criticalPathsRow.holds Tryz.pinned (OpenSpec.ofChange criticalPathsSpec)

/-- ITS FALSE NEIGHBOUR: 'it returns false'. Refute it at one input. -/
def criticalPathsWrong : ChangeSpec := { name := "criticalPaths", fn := fun _ => fun
  | [d1, d2, d3] => { results := [.lit (.bool false)], args := [d1, d2, d3] }
  | _ => none }
def CriticalPathsWrongFalsely : Prop := criticalPathsRow.holds Tryz.pinned (OpenSpec.ofChange criticalPathsWrong)

/-- 'sleuthlaw17.CriticalRefuses': WHATEVER THE INPUT: true; the input reads as it did. -/
def criticalRefusesSpec : ChangeSpec := { name := "criticalRefuses", fn := fun _ => fun
  | [d1, d2, d3] => { results := [.lit (.bool true)], args := [d1, d2, d3] }
  | _ => none }
def criticalRefusesRow : OpenClaim := { program := "ytaaflhmfhnfjhaagreat", sum := "a727c5a599be5e1d9c8bf114bc2b26a693db61e40ccdf0265324da25c91a707c", func := "sleuth/sleuthlaw17.CriticalRefuses", spec := "criticalRefuses", unfollowed := true, recurses := true, plainKeys := false, apart := false }
def CriticalRefusesSaid : Prop := criticalRefusesRow.holds Tryz.pinned (OpenSpec.ofChange criticalRefusesSpec)

/-- ITS FALSE NEIGHBOUR: 'it returns false'. Refute it at one input. -/
def criticalRefusesWrong : ChangeSpec := { name := "criticalRefuses", fn := fun _ => fun
  | [d1, d2, d3] => { results := [.lit (.bool false)], args := [d1, d2, d3] }
  | _ => none }
def CriticalRefusesWrongFalsely : Prop := criticalRefusesRow.holds Tryz.pinned (OpenSpec.ofChange criticalRefusesWrong)

/-- 'sleuthlaw17.CriticalTimes': WHATEVER THE INPUT: true; the input reads as it did. -/
def criticalTimesSpec : ChangeSpec := { name := "criticalTimes", fn := fun _ => fun
  | [d1, d2, d3] => { results := [.lit (.bool true)], args := [d1, d2, d3] }
  | _ => none }
def criticalTimesRow : OpenClaim := { program := "ytaaflhmfhnfjhaagreat", sum := "a727c5a599be5e1d9c8bf114bc2b26a693db61e40ccdf0265324da25c91a707c", func := "sleuth/sleuthlaw17.CriticalTimes", spec := "criticalTimes", unfollowed := true, recurses := true, plainKeys := false, apart := false }
def CriticalTimesSaid : Prop := criticalTimesRow.holds Tryz.pinned (OpenSpec.ofChange criticalTimesSpec)

/-- ITS FALSE NEIGHBOUR: 'it returns false'. Refute it at one input. -/
def criticalTimesWrong : ChangeSpec := { name := "criticalTimes", fn := fun _ => fun
  | [d1, d2, d3] => { results := [.lit (.bool false)], args := [d1, d2, d3] }
  | _ => none }
def CriticalTimesWrongFalsely : Prop := criticalTimesRow.holds Tryz.pinned (OpenSpec.ofChange criticalTimesWrong)

/-- 'sleuthlaw17.CriticalTiles': WHATEVER THE INPUT: true; the input reads as it did. -/
def criticalTilesSpec : ChangeSpec := { name := "criticalTiles", fn := fun _ => fun
  | [d1, d2] => { results := [.lit (.bool true)], args := [d1, d2] }
  | _ => none }
def criticalTilesRow : OpenClaim := { program := "ytaaflhmfhnfjhaagreat", sum := "a727c5a599be5e1d9c8bf114bc2b26a693db61e40ccdf0265324da25c91a707c", func := "sleuth/sleuthlaw17.CriticalTiles", spec := "criticalTiles", unfollowed := true, recurses := true, plainKeys := false, apart := false }
def CriticalTilesSaid : Prop := criticalTilesRow.holds Tryz.pinned (OpenSpec.ofChange criticalTilesSpec)

/-- ITS FALSE NEIGHBOUR: 'it returns false'. Refute it at one input. -/
def criticalTilesWrong : ChangeSpec := { name := "criticalTiles", fn := fun _ => fun
  | [d1, d2] => { results := [.lit (.bool false)], args := [d1, d2] }
  | _ => none }
def CriticalTilesWrongFalsely : Prop := criticalTilesRow.holds Tryz.pinned (OpenSpec.ofChange criticalTilesWrong)

/-- 'sleuthlaw17.CriticalLengths': WHATEVER THE INPUT: true; the input reads as it did. -/
def criticalLengthsSpec : ChangeSpec := { name := "criticalLengths", fn := fun _ => fun
  | [d1, d2] => { results := [.lit (.bool true)], args := [d1, d2] }
  | _ => none }
def criticalLengthsRow : OpenClaim := { program := "ytaaflhmfhnfjhaagreat", sum := "a727c5a599be5e1d9c8bf114bc2b26a693db61e40ccdf0265324da25c91a707c", func := "sleuth/sleuthlaw17.CriticalLengths", spec := "criticalLengths", unfollowed := true, recurses := true, plainKeys := false, apart := false }
def CriticalLengthsSaid : Prop := criticalLengthsRow.holds Tryz.pinned (OpenSpec.ofChange criticalLengthsSpec)

/-- ITS FALSE NEIGHBOUR: 'it returns false'. Refute it at one input. -/
def criticalLengthsWrong : ChangeSpec := { name := "criticalLengths", fn := fun _ => fun
  | [d1, d2] => { results := [.lit (.bool false)], args := [d1, d2] }
  | _ => none }
def CriticalLengthsWrongFalsely : Prop := criticalLengthsRow.holds Tryz.pinned (OpenSpec.ofChange criticalLengthsWrong)

/-- 'sleuthlaw17.CriticalExclusive': WHATEVER THE INPUT: true; the input reads as it did. -/
def criticalExclusiveSpec : ChangeSpec := { name := "criticalExclusive", fn := fun _ => fun
  | [d1, d2] => { results := [.lit (.bool true)], args := [d1, d2] }
  | _ => none }
def criticalExclusiveRow : OpenClaim := { program := "ytaaflhmfhnfjhaagreat", sum := "a727c5a599be5e1d9c8bf114bc2b26a693db61e40ccdf0265324da25c91a707c", func := "sleuth/sleuthlaw17.CriticalExclusive", spec := "criticalExclusive", unfollowed := true, recurses := true, plainKeys := false, apart := false }
def CriticalExclusiveSaid : Prop := criticalExclusiveRow.holds Tryz.pinned (OpenSpec.ofChange criticalExclusiveSpec)

/-- ITS FALSE NEIGHBOUR: 'it returns false'. Refute it at one input. -/
def criticalExclusiveWrong : ChangeSpec := { name := "criticalExclusive", fn := fun _ => fun
  | [d1, d2] => { results := [.lit (.bool false)], args := [d1, d2] }
  | _ => none }
def CriticalExclusiveWrongFalsely : Prop := criticalExclusiveRow.holds Tryz.pinned (OpenSpec.ofChange criticalExclusiveWrong)

/-- 'sleuthlaw17.CriticalShifts': WHATEVER THE INPUT: true; the input reads as it did. -/
def criticalShiftsSpec : ChangeSpec := { name := "criticalShifts", fn := fun _ => fun
  | [d1, d2, d3] => { results := [.lit (.bool true)], args := [d1, d2, d3] }
  | _ => none }
def criticalShiftsRow : OpenClaim := { program := "ytaaflhmfhnfjhaagreat", sum := "a727c5a599be5e1d9c8bf114bc2b26a693db61e40ccdf0265324da25c91a707c", func := "sleuth/sleuthlaw17.CriticalShifts", spec := "criticalShifts", unfollowed := true, recurses := true, plainKeys := false, apart := false }
def CriticalShiftsSaid : Prop := criticalShiftsRow.holds Tryz.pinned (OpenSpec.ofChange criticalShiftsSpec)

/-- ITS FALSE NEIGHBOUR: 'it returns false'. Refute it at one input. -/
def criticalShiftsWrong : ChangeSpec := { name := "criticalShifts", fn := fun _ => fun
  | [d1, d2, d3] => { results := [.lit (.bool false)], args := [d1, d2, d3] }
  | _ => none }
def CriticalShiftsWrongFalsely : Prop := criticalShiftsRow.holds Tryz.pinned (OpenSpec.ofChange criticalShiftsWrong)

/-- 'sleuthlaw17.CriticalSelf': WHATEVER THE INPUT: true; the input reads as it did. -/
def criticalSelfSpec : ChangeSpec := { name := "criticalSelf", fn := fun _ => fun
  | [d1, d2] => { results := [.lit (.bool true)], args := [d1, d2] }
  | _ => none }
def criticalSelfRow : OpenClaim := { program := "ytaaflhmfhnfjhaagreat", sum := "a727c5a599be5e1d9c8bf114bc2b26a693db61e40ccdf0265324da25c91a707c", func := "sleuth/sleuthlaw17.CriticalSelf", spec := "criticalSelf", unfollowed := true, recurses := true, plainKeys := false, apart := false }
def CriticalSelfSaid : Prop := criticalSelfRow.holds Tryz.pinned (OpenSpec.ofChange criticalSelfSpec)

/-- ITS FALSE NEIGHBOUR: 'it returns false'. Refute it at one input. -/
def criticalSelfWrong : ChangeSpec := { name := "criticalSelf", fn := fun _ => fun
  | [d1, d2] => { results := [.lit (.bool false)], args := [d1, d2] }
  | _ => none }
def CriticalSelfWrongFalsely : Prop := criticalSelfRow.holds Tryz.pinned (OpenSpec.ofChange criticalSelfWrong)

/- THE SECOND FORM. 'bulk': how many values and letters a reading holds, each counted each time it is reached (what is shared counts as often as it is met; a slice's spare places count too). A statement '..UptoSaid' is the law's where the arguments, and the package variables that the reading takes, are together of bulk at most 1048576: NARROWER than '..Said'. Prove '..Said' where nothing that the law and all that it calls make is longer than what came in: it says more and counts as full. Else prove '..UptoSaid'. A law counts once. -/
mutual
def uptoBulk {H : Type} : DataW H → Nat
  | .lit (.string bytes) => bytes.length + 1
  | .lit _ => 1
  | .nil => 1
  | .ptr d => uptoBulk d + 1
  | .slice elems spare => uptoBulkAll elems + uptoBulkAll spare + 1
  | .agg parts => uptoBulkAll parts + 1
  | .iface _ d => uptoBulk d + 1
  | .map entries => uptoBulkEntries entries + 1
  | .held _ => 1
def uptoBulkAll {H : Type} : List (DataW H) → Nat
  | [] => 0
  | d :: r => uptoBulk d + uptoBulkAll r
def uptoBulkEntries {H : Type} : List (Lit × DataW H) → Nat
  | [] => 0
  | x :: r => uptoBulkEntry x + uptoBulkEntries r
def uptoBulkEntry {H : Type} : Lit × DataW H → Nat
  | (.string bytes, d) => bytes.length + uptoBulk d + 1
  | (_, d) => uptoBulk d + 1
 end
def uptoSmall : (H : Type) → List (DataW H) → Bool := fun _ ds => decide (uptoBulkAll ds ≤ 1048576)
def OpenSpec.upto (s : _root_.Go.ChangeSpec) : _root_.Go.OpenSpec := { _root_.Go.OpenSpec.ofChange s with cond := some uptoSmall }

/-- 'sleuthlaw17.CriticalPaths', WHERE WHAT IT READS IS OF BULK AT MOST 1048576: true; the input reads as it did. -/
def criticalPathsUptoRow : OpenClaim := { program := "ytaaflhmfhnfjhaagreat", sum := "a727c5a599be5e1d9c8bf114bc2b26a693db61e40ccdf0265324da25c91a707c", func := "sleuth/sleuthlaw17.CriticalPaths", spec := "criticalPaths", unfollowed := true, recurses := true, plainKeys := false, apart := false, narrowed := true }
def CriticalPathsUptoSaid : Prop := criticalPathsUptoRow.holds Tryz.pinned (OpenSpec.upto criticalPathsSpec)

/-- 'sleuthlaw17.CriticalRefuses', WHERE WHAT IT READS IS OF BULK AT MOST 1048576: true; the input reads as it did. -/
def criticalRefusesUptoRow : OpenClaim := { program := "ytaaflhmfhnfjhaagreat", sum := "a727c5a599be5e1d9c8bf114bc2b26a693db61e40ccdf0265324da25c91a707c", func := "sleuth/sleuthlaw17.CriticalRefuses", spec := "criticalRefuses", unfollowed := true, recurses := true, plainKeys := false, apart := false, narrowed := true }
def CriticalRefusesUptoSaid : Prop := criticalRefusesUptoRow.holds Tryz.pinned (OpenSpec.upto criticalRefusesSpec)

/-- 'sleuthlaw17.CriticalTimes', WHERE WHAT IT READS IS OF BULK AT MOST 1048576: true; the input reads as it did. -/
def criticalTimesUptoRow : OpenClaim := { program := "ytaaflhmfhnfjhaagreat", sum := "a727c5a599be5e1d9c8bf114bc2b26a693db61e40ccdf0265324da25c91a707c", func := "sleuth/sleuthlaw17.CriticalTimes", spec := "criticalTimes", unfollowed := true, recurses := true, plainKeys := false, apart := false, narrowed := true }
def CriticalTimesUptoSaid : Prop := criticalTimesUptoRow.holds Tryz.pinned (OpenSpec.upto criticalTimesSpec)

/-- 'sleuthlaw17.CriticalTiles', WHERE WHAT IT READS IS OF BULK AT MOST 1048576: true; the input reads as it did. -/
def criticalTilesUptoRow : OpenClaim := { program := "ytaaflhmfhnfjhaagreat", sum := "a727c5a599be5e1d9c8bf114bc2b26a693db61e40ccdf0265324da25c91a707c", func := "sleuth/sleuthlaw17.CriticalTiles", spec := "criticalTiles", unfollowed := true, recurses := true, plainKeys := false, apart := false, narrowed := true }
def CriticalTilesUptoSaid : Prop := criticalTilesUptoRow.holds Tryz.pinned (OpenSpec.upto criticalTilesSpec)

/-- 'sleuthlaw17.CriticalLengths', WHERE WHAT IT READS IS OF BULK AT MOST 1048576: true; the input reads as it did. -/
def criticalLengthsUptoRow : OpenClaim := { program := "ytaaflhmfhnfjhaagreat", sum := "a727c5a599be5e1d9c8bf114bc2b26a693db61e40ccdf0265324da25c91a707c", func := "sleuth/sleuthlaw17.CriticalLengths", spec := "criticalLengths", unfollowed := true, recurses := true, plainKeys := false, apart := false, narrowed := true }
def CriticalLengthsUptoSaid : Prop := criticalLengthsUptoRow.holds Tryz.pinned (OpenSpec.upto criticalLengthsSpec)

/-- 'sleuthlaw17.CriticalExclusive', WHERE WHAT IT READS IS OF BULK AT MOST 1048576: true; the input reads as it did. -/
def criticalExclusiveUptoRow : OpenClaim := { program := "ytaaflhmfhnfjhaagreat", sum := "a727c5a599be5e1d9c8bf114bc2b26a693db61e40ccdf0265324da25c91a707c", func := "sleuth/sleuthlaw17.CriticalExclusive", spec := "criticalExclusive", unfollowed := true, recurses := true, plainKeys := false, apart := false, narrowed := true }
def CriticalExclusiveUptoSaid : Prop := criticalExclusiveUptoRow.holds Tryz.pinned (OpenSpec.upto criticalExclusiveSpec)

/-- 'sleuthlaw17.CriticalShifts', WHERE WHAT IT READS IS OF BULK AT MOST 1048576: true; the input reads as it did. -/
def criticalShiftsUptoRow : OpenClaim := { program := "ytaaflhmfhnfjhaagreat", sum := "a727c5a599be5e1d9c8bf114bc2b26a693db61e40ccdf0265324da25c91a707c", func := "sleuth/sleuthlaw17.CriticalShifts", spec := "criticalShifts", unfollowed := true, recurses := true, plainKeys := false, apart := false, narrowed := true }
def CriticalShiftsUptoSaid : Prop := criticalShiftsUptoRow.holds Tryz.pinned (OpenSpec.upto criticalShiftsSpec)

/-- 'sleuthlaw17.CriticalSelf', WHERE WHAT IT READS IS OF BULK AT MOST 1048576: true; the input reads as it did. -/
def criticalSelfUptoRow : OpenClaim := { program := "ytaaflhmfhnfjhaagreat", sum := "a727c5a599be5e1d9c8bf114bc2b26a693db61e40ccdf0265324da25c91a707c", func := "sleuth/sleuthlaw17.CriticalSelf", spec := "criticalSelf", unfollowed := true, recurses := true, plainKeys := false, apart := false, narrowed := true }
def CriticalSelfUptoSaid : Prop := criticalSelfUptoRow.holds Tryz.pinned (OpenSpec.upto criticalSelfSpec)

end Rows
end Go.Proofs.YtaaflhmfhnfjhaaGreat
