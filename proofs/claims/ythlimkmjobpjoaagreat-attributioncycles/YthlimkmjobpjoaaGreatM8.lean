/-
  AttributionCycles: at every list of parents the law answers true: Origins and Causes return the spans of the definition.
-/
import Derived.Test.YthlimkmjobpjoaaGreatM3
import Derived.Test.YthlimkmjobpjoaaGreatM4
import Derived.Test.YthlimkmjobpjoaaGreatRows
import Derived.Test.YthlimkmjobpjoaaGreatM7
set_option maxRecDepth 100000
set_option maxHeartbeats 8000000
namespace Go.Proofs.YthlimkmjobpjoaaGreat
open Go.ChangeShapes Go.WideShapes Go.ChangeAt Go.RowKit Go.Exe
theorem Tryz.own : ownKnob Tryz.prog.godebug = none := by kernel_rfl
theorem Tryz.laidOut : laidOutB Tryz.prog = true := by kernel_rfl
end Go.Proofs.YthlimkmjobpjoaaGreat
namespace Go.Proofs.YthlimkmjobpjoaaGreat
open Go.ChangeShapes Go.WideShapes Go.ChangeAt Go.RowKit Go.Exe
theorem pr_in {f : Nat} {xs : List AV} (h : Typ Tryz.prog (f + 2) 58 xs) : ∃ p : Pr, p.ok ∧ xs = prA p := by
  obtain ⟨parts, rfl, hp⟩ := Typ.st (ts := [5, 5, 4]) (by kernel_rfl) h
  match parts, hp with
  | [a0, a1, a2], hp =>
    simp only [Al.cons_iff] at hp
    obtain ⟨h0, h1, h2, _⟩ := hp
    obtain ⟨n0, rfl, b0⟩ := Typ.u8 tU5 h0
    obtain ⟨n1, rfl, b1⟩ := Typ.u8 tU5 h1
    obtain ⟨b, rfl⟩ := Typ.bool tU4 h2
    exact ⟨⟨n0, n1, b⟩, ⟨⟨Int.natCast_nonneg _, by simp only; omega⟩, Int.natCast_nonneg _, by simp only; omega⟩, rfl⟩
theorem prs_in {f : Nat} {x : AV} (h : Typ Tryz.prog (f + 4) 56 [x]) : ∃ ps : List Pr, (∀ p ∈ ps, p.ok) ∧ x = .sl 58 (ps.map prA) := by
  obtain ⟨rows, hx, hr⟩ := Typ.sl tL56 h
  obtain ⟨cs, hcs, rfl⟩ := rows_of (ok := Pr.ok) (enc := prA) fun r hr' => pr_in (hr r hr')
  simp at hx
  exact ⟨cs, hcs, hx⟩
end Go.Proofs.YthlimkmjobpjoaaGreat
namespace Go.Proofs.YthlimkmjobpjoaaGreat
open Go.ChangeShapes Go.WideShapes Go.ChangeAt Go.RowKit Go.Exe

def cyclesC : Prop := ∀ (x0 : AV), Typ Tryz.prog 6 56 [x0] → PCall Tryz.prog 6 [.c (.im x0)] (ft (.bool true))
theorem cycles_lifted (hc : cyclesC) (os : Os) (started : os.Started) (H : Type) (enc : TypeId × Value → H) :
    ReturnsInHanded {} Tryz.checked os 6 .any (Rows.attributionCyclesSpec.pre6 enc Tryz.prog Tryz.f6 Rows.attributionCyclesRow.domain false) (Rows.attributionCyclesSpec.post enc Tryz.prog Tryz.f6 false Rows.attributionCyclesRow.fresh Rows.attributionCyclesRow.handsOn Rows.attributionCyclesRow.again) := by
  refine returnsInHanded_of_change_sized (C := Tryz.checked) Tryz.own started (by kernel_rfl) Tryz.func6
    (ChangeSpec.witness6 (enc := enc) (C := Tryz.checked) false ⟨#[], #[.slice none 0 0], []⟩ 8 (by kernel_rfl) (by kernel_rfl) (by kernel_rfl) (by kernel_rfl)) ?_
  intro W base args ds gs before hval0 hW _ hsz0 _
  have hsz : (DataW.weightsEach Tryz.prog (Tryz.f6.params.toList ++ Rows.attributionCyclesSpec.plain.varTypes Tryz.prog) (ds ++ gs)).all (· ≤ reachBytes) = true := hsz0
  clear hsz0
  have hval : ∀ (j : Nat) t v, Tryz.f6.params[j]? = some t → args[j]? = some v → Value.okWide Tryz.prog W .any base t v := hval0
  have hW' := hW
  obtain ⟨p, q, hA0, hV, rfl, hfz, hnd⟩ := hW
  have hA : DataW.TrodAll enc Tryz.prog W 0 (fun _ => true) true Tryz.f6.params.toList args.toList ds p := hA0
  rw [Tryz.params6] at hA hval hsz
  obtain ⟨v0, d0, rfl, rfl, h0⟩ := trodAll_one hA
  obtain ⟨rfl, rfl⟩ := trodVars_none hV
  clear hA0 hval0
  simp only [List.append_nil] at hW'
  obtain ⟨x0, r0, y0⟩ := arg_c (j := 0) 6 (by kernel_rfl) (by obtain ⟨z1, z2, z3, hz⟩ := okWide_slice rfl (hval 0 56 v0 rfl rfl); rw [hz]; rfl) h0 hsz rfl rfl
  have hlt : ∀ x ∈ p, x.block < W.heap.size := fun x hx => by simpa using hW'.lt x hx
  have hargs : ∀ (W' : World), Below W.heap.size W W' → DataW.TrodAll enc Tryz.prog W' 0 (fun b => decide (b < W.heap.size)) true Tryz.f6.params.toList [v0] [d0] (p) := fun W' hn => by
    have k56 : ∀ {v d ps}, DataW.Trod enc Tryz.prog W 0 (fun _ => true) true 56 v d ps → (∀ x ∈ ps, x.block < W.heap.size) → DataW.Trod enc Tryz.prog W' 0 (fun b => decide (b < W.heap.size)) true 56 v d ps :=
      fun h hl => Below.trod Tryz.laidOut (by kernel_rfl) (of_decide_eq_true (by kernel_rfl)) h hn hl
    rw [Tryz.params6]
    exact trodAll_mk1 (k56 h0 fun x hx => hlt x (by simp [hx]))
  have hcall := (hc x0 y0).2 (fun _ => True) W [v0] (Al.cons r0 Al.nil)
  refine hcall.mono fun e W' ⟨v, he, ⟨hB, _⟩, hr⟩ => ?_
  subst he
  obtain rfl : v = .bool true := RepA.flat_eq hr
  refine ⟨_, rfl, _, _, _, [], p, [], hW', ?_, ?_, ?_, hB.frame _, fun h => by cases h⟩
  · exact trodAll_mk1 (shut_bool Tryz.underlying4 true)
  · exact hargs W' hB
  · rfl
theorem cycles_holds (hc : cyclesC) : Rows.AttributionCyclesSaid :=
  OpenClaim.holds_of_wide 6 Tryz.f6 rfl rfl rfl rfl rfl rfl rfl ⟨rfl, rfl, rfl, rfl, rfl⟩ rfl rfl rfl rfl rfl (by kernel_rfl) Tryz.func6 (by kernel_rfl)
    (of_decide_eq_true (by kernel_rfl)) (by unfold Func.isWrapper; rw [if_neg (by decide +kernel)]; exact ⟨rfl, rfl⟩)
    (fun os started H enc _ => cycles_lifted hc os started H enc)
end Go.Proofs.YthlimkmjobpjoaaGreat
namespace Go.Proofs.YthlimkmjobpjoaaGreat
open Go.RowKit Go.Exe
theorem ythlimkmjobpjoaagreat_attributionCycles_holds : Rows.AttributionCyclesSaid := cycles_holds fun x0 h0 => by
  obtain ⟨ps, hps, rfl⟩ := prs_in (f := 2) h0
  exact cycles_c sort164_c sort56_c grow107_c sort71_c ps hps
end Go.Proofs.YthlimkmjobpjoaaGreat
