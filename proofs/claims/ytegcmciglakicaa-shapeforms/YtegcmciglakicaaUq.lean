import Derived.Test.YtegcmciglakicaaUp
namespace Go.Proofs.Ytegcmciglakicaa
open Go.ChangeShapes Go.WideShapes Go.ChangeAt Go.RowKit Go.Exe
set_option maxRecDepth 100000
set_option maxHeartbeats 1600000

def FormsC : Prop := ∀ p q r : List Nat, (∀ x ∈ p, x < 256) → (∀ x ∈ q, x < 256) → (∀ x ∈ r, x < 256) → PCall Try.prog 3 [planT p, planT q, planT r] (ft (.bool true))
theorem forms_lifted (hc : FormsC) (os : Os) (started : os.Started) (H : Type) (enc : TypeId × Value → H) :
    ReturnsInHanded {} Try.checked os 3 .any (Rows.shapeFormsSpec.pre6 enc Try.prog Try.f3 Rows.shapeFormsRow.domain false) (Rows.shapeFormsSpec.post enc Try.prog Try.f3 false Rows.shapeFormsRow.fresh Rows.shapeFormsRow.handsOn Rows.shapeFormsRow.again) := by
  refine returnsInHanded_of_change_sized (C := Try.checked) Try.own started (by kernel_rfl) Try.func3
    (ChangeSpec.witness6 (enc := enc) (C := Try.checked) false ⟨#[], #[.slice none 0 0, .slice none 0 0, .slice none 0 0], []⟩ 8 (by kernel_rfl) (by kernel_rfl) (by kernel_rfl) (by kernel_rfl)) ?_
  intro W base args ds gs before hval0 hW _ hsz0 _
  have hsz : (DataW.weightsEach Try.prog (Try.f3.params.toList ++ Rows.shapeFormsSpec.plain.varTypes Try.prog) (ds ++ gs)).all (· ≤ reachBytes) = true := hsz0
  clear hsz0
  have hval : ∀ (j : Nat) t v, Try.f3.params[j]? = some t → args[j]? = some v → Value.okWide Try.prog W .any base t v := hval0
  have hW' := hW
  obtain ⟨p, q, hA0, hV, rfl, hfz, hnd⟩ := hW
  have hA : DataW.TrodAll enc Try.prog W 0 (fun _ => true) true Try.f3.params.toList args.toList ds p := hA0
  rw [Try.params3] at hA hval hsz
  obtain ⟨v0, v1, v2, d0, d1, d2, p0, p1, p2, rfl, rfl, rfl, h0, h1, h2⟩ := trodAll_three hA
  obtain ⟨rfl, rfl⟩ := trodVars_none hV
  clear hA0 hval0
  simp only [List.append_nil] at hW'
  obtain ⟨a, ha, ra⟩ := plan_in (j := 0) (hval 0 23 v0 rfl rfl) h0 hsz rfl rfl
  obtain ⟨b, hb, rb⟩ := plan_in (j := 1) (hval 1 23 v1 rfl rfl) h1 hsz rfl rfl
  obtain ⟨c, hc', rc⟩ := plan_in (j := 2) (hval 2 23 v2 rfl rfl) h2 hsz rfl rfl
  have hlt : ∀ x ∈ p0 ++ p1 ++ p2, x.block < W.heap.size := fun x hx => by simpa using hW'.lt x hx
  have hargs : ∀ (W' : World), Below W.heap.size W W' → DataW.TrodAll enc Try.prog W' 0 (fun b => decide (b < W.heap.size)) true Try.f3.params.toList [v0, v1, v2] [d0, d1, d2] (p0 ++ p1 ++ p2) := fun W' hn => by
    have k : ∀ {v d ps}, DataW.Trod enc Try.prog W 0 (fun _ => true) true 23 v d ps → (∀ x ∈ ps, x.block < W.heap.size) → DataW.Trod enc Try.prog W' 0 (fun b => decide (b < W.heap.size)) true 23 v d ps :=
      fun h hl => Below.trod Try.laidOut (by kernel_rfl) (of_decide_eq_true (by kernel_rfl)) h hn hl
    rw [Try.params3, List.append_assoc]
    exact trodAll_mk3 (k h0 fun x hx => hlt x (by simp [hx])) (k h1 fun x hx => hlt x (by simp [hx])) (k h2 fun x hx => hlt x (by simp [hx]))
  have hcall := (hc a b c ha hb hc').2 (fun _ => True) W [v0, v1, v2] (Al.cons ra (Al.cons rb (Al.cons rc Al.nil)))
  refine hcall.mono fun e W' ⟨v, he, ⟨hB, _⟩, hr⟩ => ?_
  subst he
  obtain rfl : v = .bool true := RepA.flat_eq hr
  refine ⟨_, rfl, _, _, _, [], p0 ++ p1 ++ p2, [], hW', ?_, ?_, ?_, hB.frame _, fun h => by cases h⟩
  · exact trodAll_mk1 (shut_bool Try.underlying4 true)
  · exact hargs W' hB
  · rfl
theorem forms_holds (hc : FormsC) : Rows.ShapeFormsSaid :=
  OpenClaim.holds_of_wide 3 Try.f3 rfl rfl rfl rfl rfl rfl rfl ⟨rfl, rfl, rfl, rfl, rfl⟩ rfl rfl rfl rfl rfl (by kernel_rfl) Try.func3 (by kernel_rfl)
    (of_decide_eq_true (by kernel_rfl)) (by unfold Func.isWrapper; rw [if_neg (by decide +kernel)]; exact ⟨rfl, rfl⟩)
    (fun os started H enc _ => forms_lifted hc os started H enc)
end Go.Proofs.Ytegcmciglakicaa
