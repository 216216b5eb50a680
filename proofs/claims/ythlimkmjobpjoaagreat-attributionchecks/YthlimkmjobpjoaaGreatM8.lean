/-
  AttributionChecks: at every two tables the law answers true: Check returns OK for a valid one, or the first error, and Equal and CompareKeys compare them.
-/
import Derived.Test.YthlimkmjobpjoaaGreatM3
import Derived.Test.YthlimkmjobpjoaaGreatM4
import Derived.Test.YthlimkmjobpjoaaGreatRows
import Derived.Test.YthlimkmjobpjoaaGreatM7
set_option maxRecDepth 100000
set_option maxHeartbeats 8000000
namespace Go.Proofs.YthlimkmjobpjoaaGreat
open Go.ChangeShapes Go.WideShapes Go.ChangeAt Go.RowKit Go.Exe
theorem Tryz.own : ownKnob Tryz.prog.godebug = none := by kernel_rfl
theorem Tryz.laidOut : laidOutB Tryz.prog = true := by kernel_rfl
end Go.Proofs.YthlimkmjobpjoaaGreat
namespace Go.Proofs.YthlimkmjobpjoaaGreat
open Go.ChangeShapes Go.WideShapes Go.ChangeAt Go.RowKit Go.Exe
theorem ky_in {f : Nat} {xs : List AV} (h : Typ Tryz.prog (f + 2) 63 xs) : ∃ k : Ky, xs = kyA k := by
  obtain ⟨parts, rfl, hp⟩ := Typ.st (ts := [9, 9, 9]) (by kernel_rfl) h
  match parts, hp with
  | [a0, a1, a2], hp =>
    simp only [Al.cons_iff] at hp
    obtain ⟨h0, h1, h2, _⟩ := hp
    obtain ⟨n0, rfl, _⟩ := Typ.str tU9 h0
    obtain ⟨n1, rfl, _⟩ := Typ.str tU9 h1
    obtain ⟨n2, rfl, _⟩ := Typ.str tU9 h2
    exact ⟨⟨n0, n1, n2⟩, rfl⟩
theorem en_in {f : Nat} {xs : List AV} (h : Typ Tryz.prog (f + 4) 65 xs) : ∃ e : En, True ∧ xs = enA e := by
  obtain ⟨parts, rfl, hp⟩ := Typ.st (ts := [63, 3, 3, 3, 3]) (by kernel_rfl) h
  match parts, hp with
  | [a0, a1, a2, a3, a4], hp =>
    simp only [Al.cons_iff] at hp
    obtain ⟨h0, h1, h2, h3, h4, _⟩ := hp
    obtain ⟨k, rfl⟩ := ky_in (f := f + 1) h0
    obtain ⟨n1, rfl, _⟩ := Typ.int tU3 h1
    obtain ⟨n2, rfl, _⟩ := Typ.int tU3 h2
    obtain ⟨n3, rfl, _⟩ := Typ.int tU3 h3
    obtain ⟨n4, rfl, _⟩ := Typ.int tU3 h4
    exact ⟨⟨k, n1, n2, n3, n4⟩, trivial, rfl⟩
theorem ens_in {f : Nat} {x : AV} (h : Typ Tryz.prog (f + 6) 34 [x]) : ∃ l : List En, x = .sl 65 (l.map enA) := by
  obtain ⟨rows, hx, hr⟩ := Typ.sl tL34 h
  obtain ⟨cs, _, rfl⟩ := rows_of (ok := fun _ : En => True) (enc := enA) fun r hr' => en_in (hr r hr')
  simp at hx
  exact ⟨cs, hx⟩
end Go.Proofs.YthlimkmjobpjoaaGreat
namespace Go.Proofs.YthlimkmjobpjoaaGreat
open Go.ChangeShapes Go.WideShapes Go.ChangeAt Go.RowKit Go.Exe

def checksC : Prop := ∀ (x0 : AV) (x1 : AV), Typ Tryz.prog 8 34 [x0] → Typ Tryz.prog 8 34 [x1] → PCall Tryz.prog 8 [.c (.im x0), .c (.im x1)] (ft (.bool true))
theorem checks_lifted (hc : checksC) (os : Os) (started : os.Started) (H : Type) (enc : TypeId × Value → H) :
    ReturnsInHanded {} Tryz.checked os 8 .any (Rows.attributionChecksSpec.pre6 enc Tryz.prog Tryz.f8 Rows.attributionChecksRow.domain false) (Rows.attributionChecksSpec.post enc Tryz.prog Tryz.f8 false Rows.attributionChecksRow.fresh Rows.attributionChecksRow.handsOn Rows.attributionChecksRow.again) := by
  refine returnsInHanded_of_change_sized (C := Tryz.checked) Tryz.own started (by kernel_rfl) Tryz.func8
    (ChangeSpec.witness6 (enc := enc) (C := Tryz.checked) false ⟨#[], #[.slice none 0 0, .slice none 0 0], []⟩ 8 (by kernel_rfl) (by kernel_rfl) (by kernel_rfl) (by kernel_rfl)) ?_
  intro W base args ds gs before hval0 hW _ hsz0 _
  have hsz : (DataW.weightsEach Tryz.prog (Tryz.f8.params.toList ++ Rows.attributionChecksSpec.plain.varTypes Tryz.prog) (ds ++ gs)).all (· ≤ reachBytes) = true := hsz0
  clear hsz0
  have hval : ∀ (j : Nat) t v, Tryz.f8.params[j]? = some t → args[j]? = some v → Value.okWide Tryz.prog W .any base t v := hval0
  have hW' := hW
  obtain ⟨p, q, hA0, hV, rfl, hfz, hnd⟩ := hW
  have hA : DataW.TrodAll enc Tryz.prog W 0 (fun _ => true) true Tryz.f8.params.toList args.toList ds p := hA0
  rw [Tryz.params8] at hA hval hsz
  obtain ⟨v0, v1, d0, d1, p0, p1, rfl, rfl, rfl, h0, h1⟩ := trodAll_two hA
  obtain ⟨rfl, rfl⟩ := trodVars_none hV
  clear hA0 hval0
  simp only [List.append_nil] at hW'
  obtain ⟨x0, r0, y0⟩ := arg_c (j := 0) 8 (by kernel_rfl) (by obtain ⟨z1, z2, z3, hz⟩ := okWide_slice rfl (hval 0 34 v0 rfl rfl); rw [hz]; rfl) h0 hsz rfl rfl
  obtain ⟨x1, r1, y1⟩ := arg_c (j := 1) 8 (by kernel_rfl) (by obtain ⟨z1, z2, z3, hz⟩ := okWide_slice rfl (hval 1 34 v1 rfl rfl); rw [hz]; rfl) h1 hsz rfl rfl
  have hlt : ∀ x ∈ p0 ++ p1, x.block < W.heap.size := fun x hx => by simpa using hW'.lt x hx
  have hargs : ∀ (W' : World), Below W.heap.size W W' → DataW.TrodAll enc Tryz.prog W' 0 (fun b => decide (b < W.heap.size)) true Tryz.f8.params.toList [v0, v1] [d0, d1] (p0 ++ p1) := fun W' hn => by
    have k34 : ∀ {v d ps}, DataW.Trod enc Tryz.prog W 0 (fun _ => true) true 34 v d ps → (∀ x ∈ ps, x.block < W.heap.size) → DataW.Trod enc Tryz.prog W' 0 (fun b => decide (b < W.heap.size)) true 34 v d ps :=
      fun h hl => Below.trod Tryz.laidOut (by kernel_rfl) (of_decide_eq_true (by kernel_rfl)) h hn hl
    rw [Tryz.params8]
    exact trodAll_mk2 (k34 h0 fun x hx => hlt x (by simp [hx])) (k34 h1 fun x hx => hlt x (by simp [hx]))
  have hcall := (hc x0 x1 y0 y1).2 (fun _ => True) W [v0, v1] (Al.cons r0 (Al.cons r1 Al.nil))
  refine hcall.mono fun e W' ⟨v, he, ⟨hB, _⟩, hr⟩ => ?_
  subst he
  obtain rfl : v = .bool true := RepA.flat_eq hr
  refine ⟨_, rfl, _, _, _, [], p0 ++ p1, [], hW', ?_, ?_, ?_, hB.frame _, fun h => by cases h⟩
  · exact trodAll_mk1 (shut_bool Tryz.underlying4 true)
  · exact hargs W' hB
  · rfl
theorem checks_holds (hc : checksC) : Rows.AttributionChecksSaid :=
  OpenClaim.holds_of_wide 8 Tryz.f8 rfl rfl rfl rfl rfl rfl rfl ⟨rfl, rfl, rfl, rfl, rfl⟩ rfl rfl rfl rfl rfl (by kernel_rfl) Tryz.func8 (by kernel_rfl)
    (of_decide_eq_true (by kernel_rfl)) (by unfold Func.isWrapper; rw [if_neg (by decide +kernel)]; exact ⟨rfl, rfl⟩)
    (fun os started H enc _ => checks_lifted hc os started H enc)
end Go.Proofs.YthlimkmjobpjoaaGreat
namespace Go.Proofs.YthlimkmjobpjoaaGreat
open Go.RowKit Go.Exe
theorem ythlimkmjobpjoaagreat_attributionChecks_holds : Rows.AttributionChecksSaid := checks_holds fun x0 x1 h0 h1 => by
  obtain ⟨a, rfl⟩ := ens_in (f := 2) h0
  obtain ⟨b, rfl⟩ := ens_in (f := 2) h1
  exact checks_c sort164_c sort56_c grow107_c sort71_c a b
end Go.Proofs.YthlimkmjobpjoaaGreat
