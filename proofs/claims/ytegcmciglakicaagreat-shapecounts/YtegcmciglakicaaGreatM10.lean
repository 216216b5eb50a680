/-
  ShapeCounts: at every story and all weights the law answers true: Counts returns the different shapes of the traces with the numbers of traces and weights, in order.
-/
import Derived.Test.YtegcmciglakicaaGreatM8
import Derived.Test.YtegcmciglakicaaGreatM3
import Derived.Test.YtegcmciglakicaaGreatRows
import Derived.Test.YtegcmciglakicaaGreatM9
import Derived.Test.YtegcmciglakicaaGreatM5
namespace Go.Proofs.YtegcmciglakicaaGreat
open Go.ChangeShapes Go.WideShapes Go.ChangeAt Go.RowKit Go.Exe
set_option maxRecDepth 100000
theorem Tryz.own : ownKnob Tryz.prog.godebug = none := by kernel_rfl
theorem Tryz.laidOut : laidOutB Tryz.prog = true := by kernel_rfl
theorem under4 : Tryz.prog.underlying 4 = some .bool := by kernel_rfl
/-! ### stories that came in -/
theorem i8_in {f : Nat} {xs : List AV} (h : Typ Tryz.prog (f + 1) 23 xs) : ∃ n : Int, i8 n ∧ xs = [.flat (.int .i8 n)] := by
  obtain ⟨n, rfl, h1, h2⟩ := Typ.int tU23 h
  simp [IntKind.min, IntKind.max, IntKind.signed, IntKind.bits] at h1 h2
  exact ⟨n, ⟨h1, h2⟩, rfl⟩
theorem cal_in {f : Nat} {xs : List AV} (h : Typ Tryz.prog (f + 2) 193 xs) : ∃ c : Cal, c.ok ∧ xs = calA c := by
  obtain ⟨parts, rfl, hp⟩ := Typ.st (ts := [5, 5, 5, 5, 5, 5, 5, 5, 5, 5, 4]) (by kernel_rfl) h
  match parts, hp with
  | [a0, a1, a2, a3, a4, a5, a6, a7, a8, a9, a10], hp =>
    simp only [Al.cons_iff] at hp
    obtain ⟨h0, h1, h2, h3, h4, h5, h6, h7, h8, h9, h10, _⟩ := hp
    obtain ⟨n0, rfl, b0⟩ := Typ.u8 tU5 h0
    obtain ⟨n1, rfl, b1⟩ := Typ.u8 tU5 h1
    obtain ⟨n2, rfl, b2⟩ := Typ.u8 tU5 h2
    obtain ⟨n3, rfl, b3⟩ := Typ.u8 tU5 h3
    obtain ⟨n4, rfl, b4⟩ := Typ.u8 tU5 h4
    obtain ⟨n5, rfl, b5⟩ := Typ.u8 tU5 h5
    obtain ⟨n6, rfl, b6⟩ := Typ.u8 tU5 h6
    obtain ⟨n7, rfl, b7⟩ := Typ.u8 tU5 h7
    obtain ⟨n8, rfl, b8⟩ := Typ.u8 tU5 h8
    obtain ⟨n9, rfl, b9⟩ := Typ.u8 tU5 h9
    obtain ⟨b, rfl⟩ := Typ.bool tU4 h10
    exact ⟨⟨n0, n1, n2, n3, n4, n5, n6, n7, n8, n9, b⟩, ⟨b0, b1, b2, b3, b4, b5, b6, b7, b8, b9⟩, rfl⟩
theorem tre_in {f : Nat} {xs : List AV} (h : Typ Tryz.prog (f + 4) 91 xs) : ∃ t : Tre, t.okB ∧ xs = treA t := by
  obtain ⟨parts, rfl, hp⟩ := Typ.st (ts := [5, 5, 89]) (by kernel_rfl) h
  match parts, hp with
  | [a0, a1, a2], hp =>
    simp only [Al.cons_iff] at hp
    obtain ⟨h0, h1, h2, _⟩ := hp
    obtain ⟨n0, rfl, b0⟩ := Typ.u8 tU5 h0
    obtain ⟨n1, rfl, b1⟩ := Typ.u8 tU5 h1
    obtain ⟨rows, rfl, hr⟩ := Typ.sl tL89 h2
    obtain ⟨cs, hcs, rfl⟩ := rows_of (ok := Cal.ok) (enc := calA) fun r hr' => cal_in (hr r hr')
    exact ⟨⟨n0, n1, cs⟩, ⟨b0, b1, hcs⟩, rfl⟩
theorem sto_in {f : Nat} {xs : List AV} (h : Typ Tryz.prog (f + 6) 27 xs) : ∃ s : Sto, s.okB ∧ xs = stoA s := by
  obtain ⟨parts, rfl, hp⟩ := Typ.st (ts := [22, 24, 25, 5]) (by kernel_rfl) h
  match parts, hp with
  | [a0, a1, a2, a3], hp =>
    simp only [Al.cons_iff] at hp
    obtain ⟨h0, h1, h2, h3, _⟩ := hp
    obtain ⟨rows, rfl, hr⟩ := Typ.sl tL22 h0
    obtain ⟨ts, hts, rfl⟩ := rows_of (ok := Tre.okB) (enc := treA) fun r hr' => tre_in (hr r hr')
    obtain ⟨offs, rfl, hol, ho⟩ := Typ.arr (n := 4) (e := 23) (by kernel_rfl) h1
    obtain ⟨sy, rfl, hs⟩ := Typ.sl tL25 h2
    obtain ⟨w, rfl, bw⟩ := Typ.u8 tU5 h3
    match offs, hol with
    | [q1, q2, q3, q4], _ =>
      obtain ⟨o1, c1, rfl⟩ := i8_in (ho q1 (by simp))
      obtain ⟨o2, c2, rfl⟩ := i8_in (ho q2 (by simp))
      obtain ⟨o3, c3, rfl⟩ := i8_in (ho q3 (by simp))
      obtain ⟨o4, c4, rfl⟩ := i8_in (ho q4 (by simp))
      exact ⟨⟨ts, o1, o2, o3, o4, sy, w⟩, ⟨hts, c1, c2, c3, c4, bw⟩, rfl⟩
theorem ref_in {f : Nat} {xs : List AV} (h : Typ Tryz.prog (f + 2) 56 xs) : ∃ r : Rf, xs = refA r := by
  obtain ⟨parts, rfl, hp⟩ := Typ.st (ts := [3, 3]) (by kernel_rfl) h
  match parts, hp with
  | [a0, a1], hp =>
    simp only [Al.cons_iff] at hp
    obtain ⟨h0, h1, _⟩ := hp
    obtain ⟨n0, rfl, _⟩ := Typ.int tU3 h0
    obtain ⟨n1, rfl, _⟩ := Typ.int tU3 h1
    exact ⟨(n0, n1), rfl⟩
end Go.Proofs.YtegcmciglakicaaGreat
namespace Go.Proofs.YtegcmciglakicaaGreat
open Go.ChangeShapes Go.WideShapes Go.ChangeAt Go.RowKit Go.Exe
set_option maxRecDepth 100000
set_option maxHeartbeats 1600000

def countsC : Prop := ∀ (x0 : List AV) (x1 : List AV), Typ Tryz.prog 6 27 x0 → Typ Tryz.prog 6 69 x1 → PCall Tryz.prog 6 [.g (x0.map .im), .g (x1.map .im)] (ft (.bool true))
theorem counts_lifted (hc : countsC) (os : Os) (started : os.Started) (H : Type) (enc : TypeId × Value → H) :
    ReturnsInHanded {} Tryz.checked os 6 .any (Rows.shapeCountsSpec.pre6 enc Tryz.prog Tryz.f6 Rows.shapeCountsRow.domain false) (Rows.shapeCountsSpec.post enc Tryz.prog Tryz.f6 false Rows.shapeCountsRow.fresh Rows.shapeCountsRow.handsOn Rows.shapeCountsRow.again) := by
  refine returnsInHanded_of_change_sized (C := Tryz.checked) Tryz.own started (by kernel_rfl) Tryz.func6
    (ChangeSpec.witness6 (enc := enc) (C := Tryz.checked) false ⟨#[], #[.agg #[.slice none 0 0, .int .i8 0, .int .i8 0, .int .i8 0, .int .i8 0, .slice none 0 0, .int .u8 0], .agg #[.int .u8 0, .int .u8 0, .int .u8 0, .int .u8 0]], []⟩ 8 (by kernel_rfl) (by kernel_rfl) (by kernel_rfl) (by kernel_rfl)) ?_
  intro W base args ds gs before hval0 hW _ hsz0 _
  have hsz : (DataW.weightsEach Tryz.prog (Tryz.f6.params.toList ++ Rows.shapeCountsSpec.plain.varTypes Tryz.prog) (ds ++ gs)).all (· ≤ reachBytes) = true := hsz0
  clear hsz0
  have hval : ∀ (j : Nat) t v, Tryz.f6.params[j]? = some t → args[j]? = some v → Value.okWide Tryz.prog W .any base t v := hval0
  have hW' := hW
  obtain ⟨p, q, hA0, hV, rfl, hfz, hnd⟩ := hW
  have hA : DataW.TrodAll enc Tryz.prog W 0 (fun _ => true) true Tryz.f6.params.toList args.toList ds p := hA0
  rw [Tryz.params6] at hA hval hsz
  obtain ⟨v0, v1, d0, d1, p0, p1, rfl, rfl, rfl, h0, h1⟩ := trodAll_two hA
  obtain ⟨rfl, rfl⟩ := trodVars_none hV
  clear hA0 hval0
  simp only [List.append_nil] at hW'
  obtain ⟨x0, r0, y0⟩ := arg_g (j := 0) 6 (by kernel_rfl) (by obtain ⟨cs, hcs, _⟩ := okWide_struct rfl (hval 0 27 v0 rfl rfl); exact ⟨cs, hcs⟩) h0 hsz rfl rfl
  obtain ⟨x1, r1, y1⟩ := arg_g (j := 1) 6 (by kernel_rfl) (by obtain ⟨cs, hcs, _⟩ := okWide_array rfl (hval 1 69 v1 rfl rfl); exact ⟨cs, hcs⟩) h1 hsz rfl rfl
  have hlt : ∀ x ∈ p0 ++ p1, x.block < W.heap.size := fun x hx => by simpa using hW'.lt x hx
  have hargs : ∀ (W' : World), Below W.heap.size W W' → DataW.TrodAll enc Tryz.prog W' 0 (fun b => decide (b < W.heap.size)) true Tryz.f6.params.toList [v0, v1] [d0, d1] (p0 ++ p1) := fun W' hn => by
    have k27 : ∀ {v d ps}, DataW.Trod enc Tryz.prog W 0 (fun _ => true) true 27 v d ps → (∀ x ∈ ps, x.block < W.heap.size) → DataW.Trod enc Tryz.prog W' 0 (fun b => decide (b < W.heap.size)) true 27 v d ps :=
      fun h hl => Below.trod Tryz.laidOut (by kernel_rfl) (of_decide_eq_true (by kernel_rfl)) h hn hl
    have k69 : ∀ {v d ps}, DataW.Trod enc Tryz.prog W 0 (fun _ => true) true 69 v d ps → (∀ x ∈ ps, x.block < W.heap.size) → DataW.Trod enc Tryz.prog W' 0 (fun b => decide (b < W.heap.size)) true 69 v d ps :=
      fun h hl => Below.trod Tryz.laidOut (by kernel_rfl) (of_decide_eq_true (by kernel_rfl)) h hn hl
    rw [Tryz.params6]
    exact trodAll_mk2 (k27 h0 fun x hx => hlt x (by simp [hx])) (k69 h1 fun x hx => hlt x (by simp [hx]))
  have hcall := (hc x0 x1 y0 y1).2 (fun _ => True) W [v0, v1] (Al.cons r0 (Al.cons r1 Al.nil))
  refine hcall.mono fun e W' ⟨v, he, ⟨hB, _⟩, hr⟩ => ?_
  subst he
  obtain rfl : v = .bool true := RepA.flat_eq hr
  refine ⟨_, rfl, _, _, _, [], p0 ++ p1, [], hW', ?_, ?_, ?_, hB.frame _, fun h => by cases h⟩
  · exact trodAll_mk1 (shut_bool under4 true)
  · exact hargs W' hB
  · rfl
theorem counts_holds (hc : countsC) : Rows.ShapeCountsSaid :=
  OpenClaim.holds_of_wide 6 Tryz.f6 rfl rfl rfl rfl rfl rfl rfl ⟨rfl, rfl, rfl, rfl, rfl⟩ rfl rfl rfl rfl rfl (by kernel_rfl) Tryz.func6 (by kernel_rfl)
    (of_decide_eq_true (by kernel_rfl)) (by unfold Func.isWrapper; rw [if_neg (by decide +kernel)]; exact ⟨rfl, rfl⟩)
    (fun os started H enc _ => counts_lifted hc os started H enc)
end Go.Proofs.YtegcmciglakicaaGreat
namespace Go.Proofs.YtegcmciglakicaaGreat
open Go.RowKit Go.Exe
set_option maxRecDepth 100000
theorem sort50_c : SortC Tryz.prog 50 5 := sortC_of Tryz.sort50 5 (aggOf tI76) (sizeOf_ tI76) ⟨Tryz.f50, Tryz.func50, by kernel_rfl, by kernel_rfl⟩
theorem ytegcmciglakicaagreat_shapeCounts_holds : Rows.ShapeCountsSaid := counts_holds fun x0 x1 h0 h1 => by
  obtain ⟨s, hs, rfl⟩ := sto_in (f := 0) h0
  obtain ⟨ws, rfl, hl, hw⟩ := Typ.arr (n := 4) (e := 5) (by kernel_rfl) h1
  match ws, hl with
  | [q0, q1, q2, q3], _ =>
    obtain ⟨n0, rfl, b0⟩ := Typ.u8 tU5 (hw q0 (by simp))
    obtain ⟨n1, rfl, b1⟩ := Typ.u8 tU5 (hw q1 (by simp))
    obtain ⟨n2, rfl, b2⟩ := Typ.u8 tU5 (hw q2 (by simp))
    obtain ⟨n3, rfl, b3⟩ := Typ.u8 tU5 (hw q3 (by simp))
    exact countsL_c sort141_c sort60_c grow62_c sort36_c sort89_c sort50_c s hs ⟨n0, n1, n2, n3⟩ ⟨b0, b1, b2, b3⟩
end Go.Proofs.YtegcmciglakicaaGreat
