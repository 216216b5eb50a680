/-
  No cell of these rows narrows 'for every input' (looked for: loops, veiled, ifaces, maps, wideKeys, modest, calm, conditions, laid).
  DERIVED. THE GIVEN ROWS OF THIS SEAT. 9 by the template 'for every input the law returns true; each argument reads behind the call as it read before'; 0 by the template 'total and deterministic' (their statements: YtigenjeealkdlaaGreatTotals.lean).
  GIVEN WITH THE SEED: the statements are not yours to turn. If you find one false, say at which input.
  Laid BY PROGRAM, IN A SANDBOX (cutbox-rows.mjs): the forced cells as the released guide's own fill.sh prints them over the translation 569cccc47eb68c48… (all of the seat's roots in one cut). By AI agents, Wed Nov 11 2026. No macro, syntax, notation, axiom, sorry.
-/
import Derived.Test.YtigenjeealkdlaaGreatChecked
import GoSem.Claim
import GoSem.ClaimJoined
import GoSem.ClaimMapViews
import Derived.JoinedTies
import Derived.KernelRfl
namespace Go.Proofs.YtigenjeealkdlaaGreat
/- THE CELL 'sum', in the pinned program and in every row, IS THE sha256 OF THE DUMP (.gsa) THAT YtigenjeealkdlaaGreatProg.lean LOADS. Nothing in Lean hashes anything: it is a label: what it is worth is what the hold of that sum in a sandbox is worth. -/
noncomputable def Tryz.pinned : Pinned := { name := "ytigenjeealkdlaagreat", sum := "569cccc47eb68c48c843e4461cb8332f218406d9c399b45ce4940df06eb70312", checked := Tryz.checked }
namespace Rows
def none {H : Type} : Left H := { results := [], args := [] }

/-- 'sleuthlaw13.AssemblyParts': WHATEVER THE INPUT: true; the input reads as it did. -/
def assemblyPartsSpec : ChangeSpec := { name := "assemblyParts", fn := fun _ => fun
  | [d] => { results := [.lit (.bool true)], args := [d] }
  | _ => none }
def assemblyPartsRow : OpenClaim := { program := "ytigenjeealkdlaagreat", sum := "569cccc47eb68c48c843e4461cb8332f218406d9c399b45ce4940df06eb70312", func := "sleuth/sleuthlaw13.AssemblyParts", spec := "assemblyParts", unfollowed := true, recurses := true, apart := false }
def AssemblyPartsSaid : Prop := assemblyPartsRow.holds Tryz.pinned (OpenSpec.ofChange assemblyPartsSpec)

/-- ITS FALSE NEIGHBOUR: 'it returns false'. Refute it at one input. -/
def assemblyPartsWrong : ChangeSpec := { name := "assemblyParts", fn := fun _ => fun
  | [d] => { results := [.lit (.bool false)], args := [d] }
  | _ => none }
def AssemblyPartsWrongFalsely : Prop := assemblyPartsRow.holds Tryz.pinned (OpenSpec.ofChange assemblyPartsWrong)

/-- 'sleuthlaw13.AssemblyBuilds': WHATEVER THE INPUT: true; the input reads as it did. -/
def assemblyBuildsSpec : ChangeSpec := { name := "assemblyBuilds", fn := fun _ => fun
  | [d1, d2] => { results := [.lit (.bool true)], args := [d1, d2] }
  | _ => none }
def assemblyBuildsRow : OpenClaim := { program := "ytigenjeealkdlaagreat", sum := "569cccc47eb68c48c843e4461cb8332f218406d9c399b45ce4940df06eb70312", func := "sleuth/sleuthlaw13.AssemblyBuilds", spec := "assemblyBuilds", unfollowed := true, recurses := true, apart := false }
def AssemblyBuildsSaid : Prop := assemblyBuildsRow.holds Tryz.pinned (OpenSpec.ofChange assemblyBuildsSpec)

/-- ITS FALSE NEIGHBOUR: 'it returns false'. Refute it at one input. -/
def assemblyBuildsWrong : ChangeSpec := { name := "assemblyBuilds", fn := fun _ => fun
  | [d1, d2] => { results := [.lit (.bool false)], args := [d1, d2] }
  | _ => none }
def AssemblyBuildsWrongFalsely : Prop := assemblyBuildsRow.holds Tryz.pinned (OpenSpec.ofChange assemblyBuildsWrong)

/-- 'sleuthlaw13.AssemblyWalks': WHATEVER THE INPUT: true; the input reads as it did. -/
def assemblyWalksSpec : ChangeSpec := { name := "assemblyWalks", fn := fun _ => fun
  | [d1, d2, d3] => { results := [.lit (.bool true)], args := [d1, d2, d3] }
  | _ => none }
def assemblyWalksRow : OpenClaim := { program := "ytigenjeealkdlaagreat", sum := "569cccc47eb68c48c843e4461cb8332f218406d9c399b45ce4940df06eb70312", func := "sleuth/sleuthlaw13.AssemblyWalks", spec := "assemblyWalks", unfollowed := true, recurses := true, apart := false }
def AssemblyWalksSaid : Prop := assemblyWalksRow.holds Tryz.pinned (OpenSpec.ofChange assemblyWalksSpec)

/-- ITS FALSE NEIGHBOUR: 'it returns false'. Refute it at one input. -/
def assemblyWalksWrong : ChangeSpec := { name := "assemblyWalks", fn := fun _ => fun
  | [d1, d2, d3] => { results := [.lit (.bool false)], args := [d1, d2, d3] }
  | _ => none }
def AssemblyWalksWrongFalsely : Prop := assemblyWalksRow.holds Tryz.pinned (OpenSpec.ofChange assemblyWalksWrong)

/-- 'sleuthlaw13.AssemblySubtrees': WHATEVER THE INPUT: true; the input reads as it did. -/
def assemblySubtreesSpec : ChangeSpec := { name := "assemblySubtrees", fn := fun _ => fun
  | [d1, d2, d3] => { results := [.lit (.bool true)], args := [d1, d2, d3] }
  | _ => none }
def assemblySubtreesRow : OpenClaim := { program := "ytigenjeealkdlaagreat", sum := "569cccc47eb68c48c843e4461cb8332f218406d9c399b45ce4940df06eb70312", func := "sleuth/sleuthlaw13.AssemblySubtrees", spec := "assemblySubtrees", unfollowed := true, recurses := true, apart := false }
def AssemblySubtreesSaid : Prop := assemblySubtreesRow.holds Tryz.pinned (OpenSpec.ofChange assemblySubtreesSpec)

/-- ITS FALSE NEIGHBOUR: 'it returns false'. Refute it at one input. -/
def assemblySubtreesWrong : ChangeSpec := { name := "assemblySubtrees", fn := fun _ => fun
  | [d1, d2, d3] => { results := [.lit (.bool false)], args := [d1, d2, d3] }
  | _ => none }
def AssemblySubtreesWrongFalsely : Prop := assemblySubtreesRow.holds Tryz.pinned (OpenSpec.ofChange assemblySubtreesWrong)

/-- 'sleuthlaw13.AssemblyEquals': WHATEVER THE INPUT: true; the input reads as it did. -/
def assemblyEqualsSpec : ChangeSpec := { name := "assemblyEquals", fn := fun _ => fun
  | [d1, d2] => { results := [.lit (.bool true)], args := [d1, d2] }
  | _ => none }
def assemblyEqualsRow : OpenClaim := { program := "ytigenjeealkdlaagreat", sum := "569cccc47eb68c48c843e4461cb8332f218406d9c399b45ce4940df06eb70312", func := "sleuth/sleuthlaw13.AssemblyEquals", spec := "assemblyEquals", unfollowed := true, recurses := true, apart := false }
def AssemblyEqualsSaid : Prop := assemblyEqualsRow.holds Tryz.pinned (OpenSpec.ofChange assemblyEqualsSpec)

/-- ITS FALSE NEIGHBOUR: 'it returns false'. Refute it at one input. -/
def assemblyEqualsWrong : ChangeSpec := { name := "assemblyEquals", fn := fun _ => fun
  | [d1, d2] => { results := [.lit (.bool false)], args := [d1, d2] }
  | _ => none }
def AssemblyEqualsWrongFalsely : Prop := assemblyEqualsRow.holds Tryz.pinned (OpenSpec.ofChange assemblyEqualsWrong)

/-- 'sleuthlaw13.AssemblyOrderless': WHATEVER THE INPUT: true; the input reads as it did. -/
def assemblyOrderlessSpec : ChangeSpec := { name := "assemblyOrderless", fn := fun _ => fun
  | [d1, d2, d3] => { results := [.lit (.bool true)], args := [d1, d2, d3] }
  | _ => none }
def assemblyOrderlessRow : OpenClaim := { program := "ytigenjeealkdlaagreat", sum := "569cccc47eb68c48c843e4461cb8332f218406d9c399b45ce4940df06eb70312", func := "sleuth/sleuthlaw13.AssemblyOrderless", spec := "assemblyOrderless", unfollowed := true, recurses := true, apart := false }
def AssemblyOrderlessSaid : Prop := assemblyOrderlessRow.holds Tryz.pinned (OpenSpec.ofChange assemblyOrderlessSpec)

/-- ITS FALSE NEIGHBOUR: 'it returns false'. Refute it at one input. -/
def assemblyOrderlessWrong : ChangeSpec := { name := "assemblyOrderless", fn := fun _ => fun
  | [d1, d2, d3] => { results := [.lit (.bool false)], args := [d1, d2, d3] }
  | _ => none }
def AssemblyOrderlessWrongFalsely : Prop := assemblyOrderlessRow.holds Tryz.pinned (OpenSpec.ofChange assemblyOrderlessWrong)

/-- 'sleuthlaw13.AssemblyAdds': WHATEVER THE INPUT: true; the input reads as it did. -/
def assemblyAddsSpec : ChangeSpec := { name := "assemblyAdds", fn := fun _ => fun
  | [d1, d2] => { results := [.lit (.bool true)], args := [d1, d2] }
  | _ => none }
def assemblyAddsRow : OpenClaim := { program := "ytigenjeealkdlaagreat", sum := "569cccc47eb68c48c843e4461cb8332f218406d9c399b45ce4940df06eb70312", func := "sleuth/sleuthlaw13.AssemblyAdds", spec := "assemblyAdds", unfollowed := true, recurses := true, apart := false }
def AssemblyAddsSaid : Prop := assemblyAddsRow.holds Tryz.pinned (OpenSpec.ofChange assemblyAddsSpec)

/-- ITS FALSE NEIGHBOUR: 'it returns false'. Refute it at one input. -/
def assemblyAddsWrong : ChangeSpec := { name := "assemblyAdds", fn := fun _ => fun
  | [d1, d2] => { results := [.lit (.bool false)], args := [d1, d2] }
  | _ => none }
def AssemblyAddsWrongFalsely : Prop := assemblyAddsRow.holds Tryz.pinned (OpenSpec.ofChange assemblyAddsWrong)

/-- 'sleuthlaw13.AssemblyRefuses': WHATEVER THE INPUT: true; the input reads as it did. -/
def assemblyRefusesSpec : ChangeSpec := { name := "assemblyRefuses", fn := fun _ => fun
  | [d1, d2] => { results := [.lit (.bool true)], args := [d1, d2] }
  | _ => none }
def assemblyRefusesRow : OpenClaim := { program := "ytigenjeealkdlaagreat", sum := "569cccc47eb68c48c843e4461cb8332f218406d9c399b45ce4940df06eb70312", func := "sleuth/sleuthlaw13.AssemblyRefuses", spec := "assemblyRefuses", unfollowed := true, recurses := true, apart := false }
def AssemblyRefusesSaid : Prop := assemblyRefusesRow.holds Tryz.pinned (OpenSpec.ofChange assemblyRefusesSpec)

/-- ITS FALSE NEIGHBOUR: 'it returns false'. Refute it at one input. -/
def assemblyRefusesWrong : ChangeSpec := { name := "assemblyRefuses", fn := fun _ => fun
  | [d1, d2] => { results := [.lit (.bool false)], args := [d1, d2] }
  | _ => none }
def AssemblyRefusesWrongFalsely : Prop := assemblyRefusesRow.holds Tryz.pinned (OpenSpec.ofChange assemblyRefusesWrong)

/-- 'sleuthlaw13.AssemblyMerges': WHATEVER THE INPUT: true; the input reads as it did. -/
def assemblyMergesSpec : ChangeSpec := { name := "assemblyMerges", fn := fun _ => fun
  | [d1, d2] => { results := [.lit (.bool true)], args := [d1, d2] }
  | _ => none }
def assemblyMergesRow : OpenClaim := { program := "ytigenjeealkdlaagreat", sum := "569cccc47eb68c48c843e4461cb8332f218406d9c399b45ce4940df06eb70312", func := "sleuth/sleuthlaw13.AssemblyMerges", spec := "assemblyMerges", unfollowed := true, recurses := true, apart := false }
def AssemblyMergesSaid : Prop := assemblyMergesRow.holds Tryz.pinned (OpenSpec.ofChange assemblyMergesSpec)

/-- ITS FALSE NEIGHBOUR: 'it returns false'. Refute it at one input. -/
def assemblyMergesWrong : ChangeSpec := { name := "assemblyMerges", fn := fun _ => fun
  | [d1, d2] => { results := [.lit (.bool false)], args := [d1, d2] }
  | _ => none }
def AssemblyMergesWrongFalsely : Prop := assemblyMergesRow.holds Tryz.pinned (OpenSpec.ofChange assemblyMergesWrong)

/- THE SECOND FORM. 'bulk': how many values and letters a reading holds, each counted each time it is reached (what is shared counts as often as it is met; a slice's spare places count too). A statement '..UptoSaid' is the law's where the arguments, and the package variables that the reading takes, are together of bulk at most 1048576: NARROWER than '..Said'. Prove '..Said' where nothing that the law and all that it calls make is longer than what came in: it says more and counts as full. Else prove '..UptoSaid'. A law counts once. -/
mutual
def uptoBulk {H : Type} : DataW H → Nat
  | .lit (.string bytes) => bytes.length + 1
  | .lit _ => 1
  | .nil => 1
  | .ptr d => uptoBulk d + 1
  | .slice elems spare => uptoBulkAll elems + uptoBulkAll spare + 1
  | .agg parts => uptoBulkAll parts + 1
  | .iface _ d => uptoBulk d + 1
  | .map entries => uptoBulkEntries entries + 1
  | .held _ => 1
def uptoBulkAll {H : Type} : List (DataW H) → Nat
  | [] => 0
  | d :: r => uptoBulk d + uptoBulkAll r
def uptoBulkEntries {H : Type} : List (Lit × DataW H) → Nat
  | [] => 0
  | x :: r => uptoBulkEntry x + uptoBulkEntries r
def uptoBulkEntry {H : Type} : Lit × DataW H → Nat
  | (.string bytes, d) => bytes.length + uptoBulk d + 1
  | (_, d) => uptoBulk d + 1
 end
def uptoSmall : (H : Type) → List (DataW H) → Bool := fun _ ds => decide (uptoBulkAll ds ≤ 1048576)
def OpenSpec.upto (s : _root_.Go.ChangeSpec) : _root_.Go.OpenSpec := { _root_.Go.OpenSpec.ofChange s with cond := some uptoSmall }

/-- 'sleuthlaw13.AssemblyParts', WHERE WHAT IT READS IS OF BULK AT MOST 1048576: true; the input reads as it did. -/
def assemblyPartsUptoRow : OpenClaim := { program := "ytigenjeealkdlaagreat", sum := "569cccc47eb68c48c843e4461cb8332f218406d9c399b45ce4940df06eb70312", func := "sleuth/sleuthlaw13.AssemblyParts", spec := "assemblyParts", unfollowed := true, recurses := true, apart := false, narrowed := true }
def AssemblyPartsUptoSaid : Prop := assemblyPartsUptoRow.holds Tryz.pinned (OpenSpec.upto assemblyPartsSpec)

/-- 'sleuthlaw13.AssemblyBuilds', WHERE WHAT IT READS IS OF BULK AT MOST 1048576: true; the input reads as it did. -/
def assemblyBuildsUptoRow : OpenClaim := { program := "ytigenjeealkdlaagreat", sum := "569cccc47eb68c48c843e4461cb8332f218406d9c399b45ce4940df06eb70312", func := "sleuth/sleuthlaw13.AssemblyBuilds", spec := "assemblyBuilds", unfollowed := true, recurses := true, apart := false, narrowed := true }
def AssemblyBuildsUptoSaid : Prop := assemblyBuildsUptoRow.holds Tryz.pinned (OpenSpec.upto assemblyBuildsSpec)

/-- 'sleuthlaw13.AssemblyWalks', WHERE WHAT IT READS IS OF BULK AT MOST 1048576: true; the input reads as it did. -/
def assemblyWalksUptoRow : OpenClaim := { program := "ytigenjeealkdlaagreat", sum := "569cccc47eb68c48c843e4461cb8332f218406d9c399b45ce4940df06eb70312", func := "sleuth/sleuthlaw13.AssemblyWalks", spec := "assemblyWalks", unfollowed := true, recurses := true, apart := false, narrowed := true }
def AssemblyWalksUptoSaid : Prop := assemblyWalksUptoRow.holds Tryz.pinned (OpenSpec.upto assemblyWalksSpec)

/-- 'sleuthlaw13.AssemblySubtrees', WHERE WHAT IT READS IS OF BULK AT MOST 1048576: true; the input reads as it did. -/
def assemblySubtreesUptoRow : OpenClaim := { program := "ytigenjeealkdlaagreat", sum := "569cccc47eb68c48c843e4461cb8332f218406d9c399b45ce4940df06eb70312", func := "sleuth/sleuthlaw13.AssemblySubtrees", spec := "assemblySubtrees", unfollowed := true, recurses := true, apart := false, narrowed := true }
def AssemblySubtreesUptoSaid : Prop := assemblySubtreesUptoRow.holds Tryz.pinned (OpenSpec.upto assemblySubtreesSpec)

/-- 'sleuthlaw13.AssemblyEquals', WHERE WHAT IT READS IS OF BULK AT MOST 1048576: true; the input reads as it did. -/
def assemblyEqualsUptoRow : OpenClaim := { program := "ytigenjeealkdlaagreat", sum := "569cccc47eb68c48c843e4461cb8332f218406d9c399b45ce4940df06eb70312", func := "sleuth/sleuthlaw13.AssemblyEquals", spec := "assemblyEquals", unfollowed := true, recurses := true, apart := false, narrowed := true }
def AssemblyEqualsUptoSaid : Prop := assemblyEqualsUptoRow.holds Tryz.pinned (OpenSpec.upto assemblyEqualsSpec)

/-- 'sleuthlaw13.AssemblyOrderless', WHERE WHAT IT READS IS OF BULK AT MOST 1048576: true; the input reads as it did. -/
def assemblyOrderlessUptoRow : OpenClaim := { program := "ytigenjeealkdlaagreat", sum := "569cccc47eb68c48c843e4461cb8332f218406d9c399b45ce4940df06eb70312", func := "sleuth/sleuthlaw13.AssemblyOrderless", spec := "assemblyOrderless", unfollowed := true, recurses := true, apart := false, narrowed := true }
def AssemblyOrderlessUptoSaid : Prop := assemblyOrderlessUptoRow.holds Tryz.pinned (OpenSpec.upto assemblyOrderlessSpec)

/-- 'sleuthlaw13.AssemblyAdds', WHERE WHAT IT READS IS OF BULK AT MOST 1048576: true; the input reads as it did. -/
def assemblyAddsUptoRow : OpenClaim := { program := "ytigenjeealkdlaagreat", sum := "569cccc47eb68c48c843e4461cb8332f218406d9c399b45ce4940df06eb70312", func := "sleuth/sleuthlaw13.AssemblyAdds", spec := "assemblyAdds", unfollowed := true, recurses := true, apart := false, narrowed := true }
def AssemblyAddsUptoSaid : Prop := assemblyAddsUptoRow.holds Tryz.pinned (OpenSpec.upto assemblyAddsSpec)

/-- 'sleuthlaw13.AssemblyRefuses', WHERE WHAT IT READS IS OF BULK AT MOST 1048576: true; the input reads as it did. -/
def assemblyRefusesUptoRow : OpenClaim := { program := "ytigenjeealkdlaagreat", sum := "569cccc47eb68c48c843e4461cb8332f218406d9c399b45ce4940df06eb70312", func := "sleuth/sleuthlaw13.AssemblyRefuses", spec := "assemblyRefuses", unfollowed := true, recurses := true, apart := false, narrowed := true }
def AssemblyRefusesUptoSaid : Prop := assemblyRefusesUptoRow.holds Tryz.pinned (OpenSpec.upto assemblyRefusesSpec)

/-- 'sleuthlaw13.AssemblyMerges', WHERE WHAT IT READS IS OF BULK AT MOST 1048576: true; the input reads as it did. -/
def assemblyMergesUptoRow : OpenClaim := { program := "ytigenjeealkdlaagreat", sum := "569cccc47eb68c48c843e4461cb8332f218406d9c399b45ce4940df06eb70312", func := "sleuth/sleuthlaw13.AssemblyMerges", spec := "assemblyMerges", unfollowed := true, recurses := true, apart := false, narrowed := true }
def AssemblyMergesUptoSaid : Prop := assemblyMergesUptoRow.holds Tryz.pinned (OpenSpec.upto assemblyMergesSpec)

end Rows
end Go.Proofs.YtigenjeealkdlaaGreat
