/-
  No cell of these rows narrows 'for every input' (looked for: loops, veiled, ifaces, maps, wideKeys, modest, calm, conditions, laid).
  DERIVED. THE GIVEN ROWS OF THIS SEAT. 4 by the template 'for every input the law returns true; each argument reads behind the call as it read before'; 0 by the template 'total and deterministic' (their statements: YtegcmciglakicaaGreatTotals.lean).
  GIVEN WITH THE SEED: the statements are not yours to turn. If you find one false, say at which input.
  Laid BY PROGRAM, IN A SANDBOX (cutbox-rows.mjs): the forced cells as the released guide's own fill.sh prints them over the translation 3483db946ed024b0… (all of the seat's roots in one cut). By AI agents, Wed Nov 11 2026. No macro, syntax, notation, axiom, sorry.
-/
import Derived.Test.YtegcmciglakicaaGreatChecked
import GoSem.Claim
import GoSem.ClaimJoined
import GoSem.ClaimMapViews
import Derived.JoinedTies
import Derived.KernelRfl
namespace Go.Proofs.YtegcmciglakicaaGreat
/- THE CELL 'sum', in the pinned program and in every row, IS THE sha256 OF THE DUMP (.gsa) THAT YtegcmciglakicaaGreatProg.lean LOADS. Nothing in Lean hashes anything: it is a label: what it is worth is what the hold of that sum in a sandbox is worth. -/
noncomputable def Tryz.pinned : Pinned := { name := "ytegcmciglakicaagreat", sum := "3483db946ed024b02b8c1fe832c2221c1f6c712733c491580d92404a005d43ba", checked := Tryz.checked }
namespace Rows
def none {H : Type} : Left H := { results := [], args := [] }

/-- 'sleuthlaw20.ShapeNumbers': WHATEVER THE INPUT: true; the input reads as it did. -/
def shapeNumbersSpec : ChangeSpec := { name := "shapeNumbers", fn := fun _ => fun
  | [d1, d2] => { results := [.lit (.bool true)], args := [d1, d2] }
  | _ => none }
def shapeNumbersRow : OpenClaim := { program := "ytegcmciglakicaagreat", sum := "3483db946ed024b02b8c1fe832c2221c1f6c712733c491580d92404a005d43ba", func := "sleuth/sleuthlaw20.ShapeNumbers", spec := "shapeNumbers", unfollowed := true, recurses := true, apart := false }
def ShapeNumbersSaid : Prop := shapeNumbersRow.holds Tryz.pinned (OpenSpec.ofChange shapeNumbersSpec)

/-- ITS FALSE NEIGHBOUR: 'it returns false'. Refute it at one input. -/
def shapeNumbersWrong : ChangeSpec := { name := "shapeNumbers", fn := fun _ => fun
  | [d1, d2] => { results := [.lit (.bool false)], args := [d1, d2] }
  | _ => none }
def ShapeNumbersWrongFalsely : Prop := shapeNumbersRow.holds Tryz.pinned (OpenSpec.ofChange shapeNumbersWrong)

/-- 'sleuthlaw20.ShapeCycles': WHATEVER THE INPUT: true; the input reads as it did. -/
def shapeCyclesSpec : ChangeSpec := { name := "shapeCycles", fn := fun _ => fun
  | [d] => { results := [.lit (.bool true)], args := [d] }
  | _ => none }
def shapeCyclesRow : OpenClaim := { program := "ytegcmciglakicaagreat", sum := "3483db946ed024b02b8c1fe832c2221c1f6c712733c491580d92404a005d43ba", func := "sleuth/sleuthlaw20.ShapeCycles", spec := "shapeCycles", unfollowed := true, recurses := true, apart := false }
def ShapeCyclesSaid : Prop := shapeCyclesRow.holds Tryz.pinned (OpenSpec.ofChange shapeCyclesSpec)

/-- ITS FALSE NEIGHBOUR: 'it returns false'. Refute it at one input. -/
def shapeCyclesWrong : ChangeSpec := { name := "shapeCycles", fn := fun _ => fun
  | [d] => { results := [.lit (.bool false)], args := [d] }
  | _ => none }
def ShapeCyclesWrongFalsely : Prop := shapeCyclesRow.holds Tryz.pinned (OpenSpec.ofChange shapeCyclesWrong)

/-- 'sleuthlaw20.ShapeBuilds': WHATEVER THE INPUT: true; the input reads as it did. -/
def shapeBuildsSpec : ChangeSpec := { name := "shapeBuilds", fn := fun _ => fun
  | [d1, d2] => { results := [.lit (.bool true)], args := [d1, d2] }
  | _ => none }
def shapeBuildsRow : OpenClaim := { program := "ytegcmciglakicaagreat", sum := "3483db946ed024b02b8c1fe832c2221c1f6c712733c491580d92404a005d43ba", func := "sleuth/sleuthlaw20.ShapeBuilds", spec := "shapeBuilds", unfollowed := true, recurses := true, apart := false }
def ShapeBuildsSaid : Prop := shapeBuildsRow.holds Tryz.pinned (OpenSpec.ofChange shapeBuildsSpec)

/-- ITS FALSE NEIGHBOUR: 'it returns false'. Refute it at one input. -/
def shapeBuildsWrong : ChangeSpec := { name := "shapeBuilds", fn := fun _ => fun
  | [d1, d2] => { results := [.lit (.bool false)], args := [d1, d2] }
  | _ => none }
def ShapeBuildsWrongFalsely : Prop := shapeBuildsRow.holds Tryz.pinned (OpenSpec.ofChange shapeBuildsWrong)

/-- 'sleuthlaw20.ShapeCounts': WHATEVER THE INPUT: true; the input reads as it did. -/
def shapeCountsSpec : ChangeSpec := { name := "shapeCounts", fn := fun _ => fun
  | [d1, d2] => { results := [.lit (.bool true)], args := [d1, d2] }
  | _ => none }
def shapeCountsRow : OpenClaim := { program := "ytegcmciglakicaagreat", sum := "3483db946ed024b02b8c1fe832c2221c1f6c712733c491580d92404a005d43ba", func := "sleuth/sleuthlaw20.ShapeCounts", spec := "shapeCounts", unfollowed := true, recurses := true, apart := false }
def ShapeCountsSaid : Prop := shapeCountsRow.holds Tryz.pinned (OpenSpec.ofChange shapeCountsSpec)

/-- ITS FALSE NEIGHBOUR: 'it returns false'. Refute it at one input. -/
def shapeCountsWrong : ChangeSpec := { name := "shapeCounts", fn := fun _ => fun
  | [d1, d2] => { results := [.lit (.bool false)], args := [d1, d2] }
  | _ => none }
def ShapeCountsWrongFalsely : Prop := shapeCountsRow.holds Tryz.pinned (OpenSpec.ofChange shapeCountsWrong)

/- THE SECOND FORM. 'bulk': how many values and letters a reading holds, each counted each time it is reached (what is shared counts as often as it is met; a slice's spare places count too). A statement '..UptoSaid' is the law's where the arguments, and the package variables that the reading takes, are together of bulk at most 1048576: NARROWER than '..Said'. Prove '..Said' where nothing that the law and all that it calls make is longer than what came in: it says more and counts as full. Else prove '..UptoSaid'. A law counts once. -/
mutual
def uptoBulk {H : Type} : DataW H → Nat
  | .lit (.string bytes) => bytes.length + 1
  | .lit _ => 1
  | .nil => 1
  | .ptr d => uptoBulk d + 1
  | .slice elems spare => uptoBulkAll elems + uptoBulkAll spare + 1
  | .agg parts => uptoBulkAll parts + 1
  | .iface _ d => uptoBulk d + 1
  | .map entries => uptoBulkEntries entries + 1
  | .held _ => 1
def uptoBulkAll {H : Type} : List (DataW H) → Nat
  | [] => 0
  | d :: r => uptoBulk d + uptoBulkAll r
def uptoBulkEntries {H : Type} : List (Lit × DataW H) → Nat
  | [] => 0
  | x :: r => uptoBulkEntry x + uptoBulkEntries r
def uptoBulkEntry {H : Type} : Lit × DataW H → Nat
  | (.string bytes, d) => bytes.length + uptoBulk d + 1
  | (_, d) => uptoBulk d + 1
 end
def uptoSmall : (H : Type) → List (DataW H) → Bool := fun _ ds => decide (uptoBulkAll ds ≤ 1048576)
def OpenSpec.upto (s : _root_.Go.ChangeSpec) : _root_.Go.OpenSpec := { _root_.Go.OpenSpec.ofChange s with cond := some uptoSmall }

/-- 'sleuthlaw20.ShapeNumbers', WHERE WHAT IT READS IS OF BULK AT MOST 1048576: true; the input reads as it did. -/
def shapeNumbersUptoRow : OpenClaim := { program := "ytegcmciglakicaagreat", sum := "3483db946ed024b02b8c1fe832c2221c1f6c712733c491580d92404a005d43ba", func := "sleuth/sleuthlaw20.ShapeNumbers", spec := "shapeNumbers", unfollowed := true, recurses := true, apart := false, narrowed := true }
def ShapeNumbersUptoSaid : Prop := shapeNumbersUptoRow.holds Tryz.pinned (OpenSpec.upto shapeNumbersSpec)

/-- 'sleuthlaw20.ShapeCycles', WHERE WHAT IT READS IS OF BULK AT MOST 1048576: true; the input reads as it did. -/
def shapeCyclesUptoRow : OpenClaim := { program := "ytegcmciglakicaagreat", sum := "3483db946ed024b02b8c1fe832c2221c1f6c712733c491580d92404a005d43ba", func := "sleuth/sleuthlaw20.ShapeCycles", spec := "shapeCycles", unfollowed := true, recurses := true, apart := false, narrowed := true }
def ShapeCyclesUptoSaid : Prop := shapeCyclesUptoRow.holds Tryz.pinned (OpenSpec.upto shapeCyclesSpec)

/-- 'sleuthlaw20.ShapeBuilds', WHERE WHAT IT READS IS OF BULK AT MOST 1048576: true; the input reads as it did. -/
def shapeBuildsUptoRow : OpenClaim := { program := "ytegcmciglakicaagreat", sum := "3483db946ed024b02b8c1fe832c2221c1f6c712733c491580d92404a005d43ba", func := "sleuth/sleuthlaw20.ShapeBuilds", spec := "shapeBuilds", unfollowed := true, recurses := true, apart := false, narrowed := true }
def ShapeBuildsUptoSaid : Prop := shapeBuildsUptoRow.holds Tryz.pinned (OpenSpec.upto shapeBuildsSpec)

/-- 'sleuthlaw20.ShapeCounts', WHERE WHAT IT READS IS OF BULK AT MOST 1048576: true; the input reads as it did. -/
def shapeCountsUptoRow : OpenClaim := { program := "ytegcmciglakicaagreat", sum := "3483db946ed024b02b8c1fe832c2221c1f6c712733c491580d92404a005d43ba", func := "sleuth/sleuthlaw20.ShapeCounts", spec := "shapeCounts", unfollowed := true, recurses := true, apart := false, narrowed := true }
def ShapeCountsUptoSaid : Prop := shapeCountsUptoRow.holds Tryz.pinned (OpenSpec.upto shapeCountsSpec)

end Rows
end Go.Proofs.YtegcmciglakicaaGreat
