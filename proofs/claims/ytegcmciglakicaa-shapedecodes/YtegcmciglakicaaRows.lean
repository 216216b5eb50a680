/-
  No cell of these rows narrows 'for every input' (looked for: loops, veiled, ifaces, maps, wideKeys, modest, calm, conditions, laid).
  DERIVED. THE GIVEN ROWS OF THIS SEAT. 5 by the template 'for every input the law returns true; each argument reads behind the call as it read before'; 0 by the template 'total and deterministic' (their statements: YtegcmciglakicaaTotals.lean).
  GIVEN WITH THE SEED: the statements are not yours to turn. If you find one false, say at which input.
  Laid BY PROGRAM, IN A SANDBOX (cutbox-rows.mjs): the forced cells as the released guide's own fill.sh prints them over the translation 84c46f1932972677… (all of the seat's roots in one cut). By AI agents, Wed Nov 11 2026. No macro, syntax, notation, axiom, sorry.
-/
import Derived.Test.YtegcmciglakicaaChecked
import GoSem.Claim
import GoSem.ClaimJoined
import GoSem.ClaimMapViews
import Derived.JoinedTies
import Derived.KernelRfl
namespace Go.Proofs.Ytegcmciglakicaa
/- THE CELL 'sum', in the pinned program and in every row, IS THE sha256 OF THE DUMP (.gsa) THAT YtegcmciglakicaaProg.lean LOADS. Nothing in Lean hashes anything: it is a label: what it is worth is what the hold of that sum in a sandbox is worth. -/
noncomputable def Try.pinned : Pinned := { name := "ytegcmciglakicaa", sum := "84c46f1932972677c0df6674d43fded5850c3a4b68693a34edfeea89de959f65", checked := Try.checked }
namespace Rows
def none {H : Type} : Left H := { results := [], args := [] }

/-- 'sleuthlaw20.ShapeForms': WHATEVER THE INPUT: true; the input reads as it did. -/
def shapeFormsSpec : ChangeSpec := { name := "shapeForms", fn := fun _ => fun
  | [d1, d2, d3] => { results := [.lit (.bool true)], args := [d1, d2, d3] }
  | _ => none }
def shapeFormsRow : OpenClaim := { program := "ytegcmciglakicaa", sum := "84c46f1932972677c0df6674d43fded5850c3a4b68693a34edfeea89de959f65", func := "sleuth/sleuthlaw20.ShapeForms", spec := "shapeForms", unfollowed := true, recurses := true, apart := false }
def ShapeFormsSaid : Prop := shapeFormsRow.holds Try.pinned (OpenSpec.ofChange shapeFormsSpec)

/-- ITS FALSE NEIGHBOUR: 'it returns false'. Refute it at one input. -/
def shapeFormsWrong : ChangeSpec := { name := "shapeForms", fn := fun _ => fun
  | [d1, d2, d3] => { results := [.lit (.bool false)], args := [d1, d2, d3] }
  | _ => none }
def ShapeFormsWrongFalsely : Prop := shapeFormsRow.holds Try.pinned (OpenSpec.ofChange shapeFormsWrong)

/-- 'sleuthlaw20.ShapeAdds': WHATEVER THE INPUT: true; the input reads as it did. -/
def shapeAddsSpec : ChangeSpec := { name := "shapeAdds", fn := fun _ => fun
  | [d1, d2, d3] => { results := [.lit (.bool true)], args := [d1, d2, d3] }
  | _ => none }
def shapeAddsRow : OpenClaim := { program := "ytegcmciglakicaa", sum := "84c46f1932972677c0df6674d43fded5850c3a4b68693a34edfeea89de959f65", func := "sleuth/sleuthlaw20.ShapeAdds", spec := "shapeAdds", unfollowed := true, recurses := true, apart := false }
def ShapeAddsSaid : Prop := shapeAddsRow.holds Try.pinned (OpenSpec.ofChange shapeAddsSpec)

/-- ITS FALSE NEIGHBOUR: 'it returns false'. Refute it at one input. -/
def shapeAddsWrong : ChangeSpec := { name := "shapeAdds", fn := fun _ => fun
  | [d1, d2, d3] => { results := [.lit (.bool false)], args := [d1, d2, d3] }
  | _ => none }
def ShapeAddsWrongFalsely : Prop := shapeAddsRow.holds Try.pinned (OpenSpec.ofChange shapeAddsWrong)

/-- 'sleuthlaw20.ShapePaths': WHATEVER THE INPUT: true; the input reads as it did. -/
def shapePathsSpec : ChangeSpec := { name := "shapePaths", fn := fun _ => fun
  | [d1, d2] => { results := [.lit (.bool true)], args := [d1, d2] }
  | _ => none }
def shapePathsRow : OpenClaim := { program := "ytegcmciglakicaa", sum := "84c46f1932972677c0df6674d43fded5850c3a4b68693a34edfeea89de959f65", func := "sleuth/sleuthlaw20.ShapePaths", spec := "shapePaths", unfollowed := true, recurses := true, apart := false }
def ShapePathsSaid : Prop := shapePathsRow.holds Try.pinned (OpenSpec.ofChange shapePathsSpec)

/-- ITS FALSE NEIGHBOUR: 'it returns false'. Refute it at one input. -/
def shapePathsWrong : ChangeSpec := { name := "shapePaths", fn := fun _ => fun
  | [d1, d2] => { results := [.lit (.bool false)], args := [d1, d2] }
  | _ => none }
def ShapePathsWrongFalsely : Prop := shapePathsRow.holds Try.pinned (OpenSpec.ofChange shapePathsWrong)

/-- 'sleuthlaw20.ShapeKeys': WHATEVER THE INPUT: true; the input reads as it did. -/
def shapeKeysSpec : ChangeSpec := { name := "shapeKeys", fn := fun _ => fun
  | [d1, d2] => { results := [.lit (.bool true)], args := [d1, d2] }
  | _ => none }
def shapeKeysRow : OpenClaim := { program := "ytegcmciglakicaa", sum := "84c46f1932972677c0df6674d43fded5850c3a4b68693a34edfeea89de959f65", func := "sleuth/sleuthlaw20.ShapeKeys", spec := "shapeKeys", unfollowed := true, recurses := true, apart := false }
def ShapeKeysSaid : Prop := shapeKeysRow.holds Try.pinned (OpenSpec.ofChange shapeKeysSpec)

/-- ITS FALSE NEIGHBOUR: 'it returns false'. Refute it at one input. -/
def shapeKeysWrong : ChangeSpec := { name := "shapeKeys", fn := fun _ => fun
  | [d1, d2] => { results := [.lit (.bool false)], args := [d1, d2] }
  | _ => none }
def ShapeKeysWrongFalsely : Prop := shapeKeysRow.holds Try.pinned (OpenSpec.ofChange shapeKeysWrong)

/-- 'sleuthlaw20.ShapeDecodes': WHATEVER THE INPUT: true; the input reads as it did. -/
def shapeDecodesSpec : ChangeSpec := { name := "shapeDecodes", fn := fun _ => fun
  | [d1, d2, d3] => { results := [.lit (.bool true)], args := [d1, d2, d3] }
  | _ => none }
def shapeDecodesRow : OpenClaim := { program := "ytegcmciglakicaa", sum := "84c46f1932972677c0df6674d43fded5850c3a4b68693a34edfeea89de959f65", func := "sleuth/sleuthlaw20.ShapeDecodes", spec := "shapeDecodes", unfollowed := true, recurses := true, apart := false }
def ShapeDecodesSaid : Prop := shapeDecodesRow.holds Try.pinned (OpenSpec.ofChange shapeDecodesSpec)

/-- ITS FALSE NEIGHBOUR: 'it returns false'. Refute it at one input. -/
def shapeDecodesWrong : ChangeSpec := { name := "shapeDecodes", fn := fun _ => fun
  | [d1, d2, d3] => { results := [.lit (.bool false)], args := [d1, d2, d3] }
  | _ => none }
def ShapeDecodesWrongFalsely : Prop := shapeDecodesRow.holds Try.pinned (OpenSpec.ofChange shapeDecodesWrong)

/- THE SECOND FORM. 'bulk': how many values and letters a reading holds, each counted each time it is reached (what is shared counts as often as it is met; a slice's spare places count too). A statement '..UptoSaid' is the law's where the arguments, and the package variables that the reading takes, are together of bulk at most 1048576: NARROWER than '..Said'. Prove '..Said' where nothing that the law and all that it calls make is longer than what came in: it says more and counts as full. Else prove '..UptoSaid'. A law counts once. -/
mutual
def uptoBulk {H : Type} : DataW H → Nat
  | .lit (.string bytes) => bytes.length + 1
  | .lit _ => 1
  | .nil => 1
  | .ptr d => uptoBulk d + 1
  | .slice elems spare => uptoBulkAll elems + uptoBulkAll spare + 1
  | .agg parts => uptoBulkAll parts + 1
  | .iface _ d => uptoBulk d + 1
  | .map entries => uptoBulkEntries entries + 1
  | .held _ => 1
def uptoBulkAll {H : Type} : List (DataW H) → Nat
  | [] => 0
  | d :: r => uptoBulk d + uptoBulkAll r
def uptoBulkEntries {H : Type} : List (Lit × DataW H) → Nat
  | [] => 0
  | x :: r => uptoBulkEntry x + uptoBulkEntries r
def uptoBulkEntry {H : Type} : Lit × DataW H → Nat
  | (.string bytes, d) => bytes.length + uptoBulk d + 1
  | (_, d) => uptoBulk d + 1
 end
def uptoSmall : (H : Type) → List (DataW H) → Bool := fun _ ds => decide (uptoBulkAll ds ≤ 1048576)
def OpenSpec.upto (s : _root_.Go.ChangeSpec) : _root_.Go.OpenSpec := { _root_.Go.OpenSpec.ofChange s with cond := some uptoSmall }

/-- 'sleuthlaw20.ShapeForms', WHERE WHAT IT READS IS OF BULK AT MOST 1048576: true; the input reads as it did. -/
def shapeFormsUptoRow : OpenClaim := { program := "ytegcmciglakicaa", sum := "84c46f1932972677c0df6674d43fded5850c3a4b68693a34edfeea89de959f65", func := "sleuth/sleuthlaw20.ShapeForms", spec := "shapeForms", unfollowed := true, recurses := true, apart := false, narrowed := true }
def ShapeFormsUptoSaid : Prop := shapeFormsUptoRow.holds Try.pinned (OpenSpec.upto shapeFormsSpec)

/-- 'sleuthlaw20.ShapeAdds', WHERE WHAT IT READS IS OF BULK AT MOST 1048576: true; the input reads as it did. -/
def shapeAddsUptoRow : OpenClaim := { program := "ytegcmciglakicaa", sum := "84c46f1932972677c0df6674d43fded5850c3a4b68693a34edfeea89de959f65", func := "sleuth/sleuthlaw20.ShapeAdds", spec := "shapeAdds", unfollowed := true, recurses := true, apart := false, narrowed := true }
def ShapeAddsUptoSaid : Prop := shapeAddsUptoRow.holds Try.pinned (OpenSpec.upto shapeAddsSpec)

/-- 'sleuthlaw20.ShapePaths', WHERE WHAT IT READS IS OF BULK AT MOST 1048576: true; the input reads as it did. -/
def shapePathsUptoRow : OpenClaim := { program := "ytegcmciglakicaa", sum := "84c46f1932972677c0df6674d43fded5850c3a4b68693a34edfeea89de959f65", func := "sleuth/sleuthlaw20.ShapePaths", spec := "shapePaths", unfollowed := true, recurses := true, apart := false, narrowed := true }
def ShapePathsUptoSaid : Prop := shapePathsUptoRow.holds Try.pinned (OpenSpec.upto shapePathsSpec)

/-- 'sleuthlaw20.ShapeKeys', WHERE WHAT IT READS IS OF BULK AT MOST 1048576: true; the input reads as it did. -/
def shapeKeysUptoRow : OpenClaim := { program := "ytegcmciglakicaa", sum := "84c46f1932972677c0df6674d43fded5850c3a4b68693a34edfeea89de959f65", func := "sleuth/sleuthlaw20.ShapeKeys", spec := "shapeKeys", unfollowed := true, recurses := true, apart := false, narrowed := true }
def ShapeKeysUptoSaid : Prop := shapeKeysUptoRow.holds Try.pinned (OpenSpec.upto shapeKeysSpec)

/-- 'sleuthlaw20.ShapeDecodes', WHERE WHAT IT READS IS OF BULK AT MOST 1048576: true; the input reads as it did. -/
def shapeDecodesUptoRow : OpenClaim := { program := "ytegcmciglakicaa", sum := "84c46f1932972677c0df6674d43fded5850c3a4b68693a34edfeea89de959f65", func := "sleuth/sleuthlaw20.ShapeDecodes", spec := "shapeDecodes", unfollowed := true, recurses := true, apart := false, narrowed := true }
def ShapeDecodesUptoSaid : Prop := shapeDecodesUptoRow.holds Try.pinned (OpenSpec.upto shapeDecodesSpec)

end Rows
end Go.Proofs.Ytegcmciglakicaa
