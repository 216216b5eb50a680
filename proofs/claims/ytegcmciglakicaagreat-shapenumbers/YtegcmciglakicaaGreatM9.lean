/-
  ShapeNumbers: at every story and every byte the law answers true: with all ids exchanged for others and all times moved the shapes are the same.
-/
import Derived.Test.YtegcmciglakicaaGreatM8
import Derived.Test.YtegcmciglakicaaGreatM5
import Derived.Test.YtegcmciglakicaaGreatM3
import Derived.Test.YtegcmciglakicaaGreatRows
namespace Go.Proofs.YtegcmciglakicaaGreat
open Go.RowKit Go.Exe
set_option linter.unusedVariables false
set_option linter.unusedSimpArgs false
/-! ### shapes do not know the ids -/
theorem srt_congr {l m : List Shp} (h : l.Perm m) : srt l = srt m := by
  exact srt_uni m (srt l) ((srt_perm l).trans h) (srt_sorted l)
structure Ren2 (φ : Int → Int) (ψ : Spn → Spn) (ss : List Spn) : Prop where
  inj : ∀ a b, φ a = φ b → a = b
  id : ∀ x ∈ ss, (ψ x).id = φ x.id
  pa : ∀ x ∈ ss, (ψ x).pa = if x.pa = 0 then 0 else φ x.pa
  nz : ∀ x ∈ ss, x.pa ≠ 0 → φ x.pa ≠ 0
  ni : ∀ x ∈ ss, x.id ≠ 0 ∧ φ x.id ≠ 0
  sv : ∀ x ∈ ss, (ψ x).sv = x.sv
  op : ∀ x ∈ ss, (ψ x).op = x.op
section
variable {φ : Int → Int} {ψ : Spn → Spn} {ss : List Spn}
theorem filt_map (R : Ren2 φ ψ ss) {p q : Spn → Bool} (h : ∀ x ∈ ss, q (ψ x) = p x) : (((ss.map ψ).reverse).filter q).map Spn.id = (((ss.filter p).map Spn.id).map φ).reverse := by
  rw [List.filter_reverse, List.map_reverse, List.filter_map, List.map_map]
  congr 1
  have e : ss.filter (q ∘ ψ) = ss.filter p := List.filter_congr fun x hx => h x hx
  rw [e, List.map_map]
  exact List.map_congr_left fun x hx => R.id x (List.mem_filter.1 hx).1
theorem ren_ids (R : Ren2 φ ψ ss) {a : Int} : φ a ∈ idsOf (ss.map ψ).reverse ↔ a ∈ idsOf ss := by
  constructor
  · intro h
    obtain ⟨y, hy, e⟩ := List.mem_map.1 h
    obtain ⟨x, hx, rfl⟩ := List.mem_map.1 (List.mem_reverse.1 hy)
    rw [R.id x hx] at e
    exact R.inj _ _ e ▸ List.mem_map_of_mem hx
  · intro h
    obtain ⟨x, hx, rfl⟩ := List.mem_map.1 h
    rw [← R.id x hx]
    exact List.mem_map_of_mem (List.mem_reverse.2 (List.mem_map_of_mem hx))
theorem ren_kids (R : Ren2 φ ψ ss) {p : Int} (hp : p ∈ idsOf ss) : kidsF (ss.map ψ).reverse (φ p) = ((kidsF ss p).map φ).reverse := by
  unfold kidsF kidsN
  rw [List.take_length, List.take_length]
  refine filt_map R fun x hx => ?_
  obtain ⟨y, hy, rfl⟩ := List.mem_map.1 hp
  have hn := (R.ni y hy).2
  rw [R.pa x hx]
  by_cases h0 : x.pa = 0
  · simp [h0]
  · rw [if_neg h0]
    have hz := R.nz x hx h0
    have : (φ x.pa == φ y.id) = (x.pa == y.id) := by
      rw [Bool.eq_iff_iff, beq_iff_eq, beq_iff_eq]
      exact ⟨fun h => R.inj _ _ h, fun h => by rw [h]⟩
    have b1 : (φ x.pa != 0) = true := by simpa using hz
    have b2 : (x.pa != 0) = true := by simpa using h0
    rw [this, b1, b2]
theorem ren_tops (R : Ren2 φ ψ ss) : (topsF (ss.map ψ).reverse).Perm ((topsF ss).map φ) := by
  unfold topsF rootsN orphN
  rw [List.take_length, List.take_length]
  rw [filt_map R (p := fun s => s.pa == 0) fun x hx => ?_, filt_map R (p := fun s => s.pa != 0 && !(idsOf ss).contains s.pa) fun x hx => ?_, List.map_append]
  · exact (List.reverse_perm _).append (List.reverse_perm _)
  · rw [R.pa x hx]
    by_cases h0 : x.pa = 0
    · simp [h0]
    · rw [if_neg h0]
      have hz := R.nz x hx h0
      have : (idsOf (ss.map ψ).reverse).contains (φ x.pa) = (idsOf ss).contains x.pa := by
        rw [Bool.eq_iff_iff, List.contains_iff_mem, List.contains_iff_mem]
        exact ren_ids R
      have b1 : (φ x.pa != 0) = true := by simpa using hz
      have b2 : (x.pa != 0) = true := by simpa using h0
      rw [this, b1, b2]
  · rw [R.pa x hx]
    by_cases h0 : x.pa = 0
    · simp [h0]
    · rw [if_neg h0]
      have hz := R.nz x hx h0
      have b1 : (φ x.pa == 0) = false := by simpa using hz
      have b2 : (x.pa == 0) = false := by simpa using h0
      rw [b1, b2]
theorem ren_nodup (R : Ren2 φ ψ ss) (hn : (idsOf ss).Nodup) : (idsOf (ss.map ψ).reverse).Nodup := by
  have e : idsOf (ss.map ψ).reverse = ((idsOf ss).map φ).reverse := by
    unfold idsOf
    rw [List.map_reverse, List.map_map, List.map_map]
    congr 1
    exact List.map_congr_left fun x hx => R.id x hx
  rw [e]
  unfold List.Nodup at hn ⊢
  rw [List.pairwise_reverse, List.pairwise_map]
  exact hn.imp fun {a b} h e => h (R.inj _ _ e).symm
theorem ren_shp (R : Ren2 φ ψ ss) (hn : (idsOf ss).Nodup) : ∀ (f : Nat) {id : Int}, id ∈ idsOf ss → shpF (ss.map ψ).reverse f (φ id) = shpF ss f id
  | 0, id, h => rfl
  | f + 1, id, h => by
    have hk := ren_kids R h
    obtain ⟨x, hx, rfl⟩ := List.mem_map.1 h
    have h1 := spnOf_at hn hx
    have h2 := spnOf_at (ren_nodup R hn) (p := ψ x) (List.mem_reverse.2 (List.mem_map_of_mem hx))
    rw [R.id x hx] at h2
    simp only [shpF, h1, h2, hk, R.sv x hx, R.op x hx]
    congr 1
    refine srt_congr ?_
    rw [List.map_reverse, List.map_map]
    refine (List.reverse_perm _).trans (List.Perm.of_eq (List.map_congr_left fun c hc => ?_))
    obtain ⟨s, hs, rfl, _⟩ := mem_kids.1 hc
    exact ren_shp R hn f (List.mem_map_of_mem hs)
theorem ren_trace (R : Ren2 φ ψ ss) (hn : (idsOf ss).Nodup) : srt ((lev (ss.map ψ).reverse 0).map (shpF (ss.map ψ).reverse (ss.map ψ).reverse.length)) = srt ((lev ss 0).map (shpF ss ss.length)) := by
  have hl : (ss.map ψ).reverse.length = ss.length := by simp
  rw [hl]
  refine srt_congr ?_
  refine ((ren_tops R).map _).trans ?_
  rw [List.map_map]
  refine List.Perm.of_eq (List.map_congr_left fun c hc => ?_)
  exact ren_shp R hn _ (lev_ids 0 hc)
end
/-! ### the other numbers of ShapeNumbers -/
def numF (b : Nat) (n : Int) : Int := 200 - n + (b : Nat)
def numX (b : Nat) (x : Spn) : Spn := { x with id := numF b x.id, pa := if x.pa > 0 then numF b x.pa else x.pa, st := x.st + 9, en := x.en + 9, clk := 1, lks := [] }
theorem trF_num (b : Nat) (l : List Spn) (t : Int) : trF ((l.map (numX b)).reverse) t = ((trF l t).map (numX b)).reverse := by
  unfold trF
  rw [List.filter_reverse, List.filter_map]
  rfl
theorem num_ren (b : Nat) {ss : List Spn} (hid : ∀ x ∈ ss, 1 ≤ x.id ∧ x.id ≤ 8) (hpa : ∀ x ∈ ss, 0 ≤ x.pa ∧ x.pa ≤ 100) : Ren2 (numF b) (numX b) ss where
  inj := fun a c h => by unfold numF at h; omega
  id := fun x hx => rfl
  pa := fun x hx => by
    have := hpa x hx
    show (if x.pa > 0 then numF b x.pa else x.pa) = _
    split <;> split <;> omega
  nz := fun x hx h => by have := hpa x hx; unfold numF; omega
  ni := fun x hx => by have := hid x hx; unfold numF; omega
  sv := fun x hx => rfl
  op := fun x hx => rfl
theorem num_sorted (b : Nat) {ss : List Spn} (hs : ss.Pairwise fun a b => a.id < b.id) : ((ss.map (numX b)).reverse).Pairwise fun a b => a.id < b.id := by
  rw [List.pairwise_reverse, List.pairwise_map]
  exact hs.imp fun {x y} h => by
    show numF b y.id < numF b x.id
    unfold numF; omega
/-- The bounds of a story's numbers. -/
theorem story_b {s : Sto} (hs : s.ok) : ∀ x ∈ spansS s, (1 ≤ x.id ∧ x.id ≤ 8) ∧ (0 ≤ x.pa ∧ x.pa ≤ 100) ∧ (-3000 ≤ x.st ∧ x.st ≤ 3000) ∧ (-3000 ≤ x.en ∧ x.en ≤ 3000) := by
  intro x hx
  obtain ⟨y, hy, hxy⟩ := List.mem_flatMap.1 hx
  obtain ⟨k, t, _, hk, _, rfl⟩ := trsN_mem hy
  obtain ⟨i, c, hi, rfl⟩ := trcS_mem hxy
  have hil := (List.getElem?_eq_some_iff.1 hi).1
  have h8 := (hs.1 t (List.mem_of_getElem? hk)).2.2.2
  have h2 : paN c i ≤ 100 := by
    have := Nat.mod_lt c.pa (show 0 < i + 1 by omega)
    unfold paN; split <;> (try split) <;> omega
  have h3 := getD_le (stL_le h8) i
  have h4 := getD_le (enL_le h8) i
  have h5 := offC_b s (1 + c.cl % 4)
  have h6 : -21 < byS s k i c ∧ byS s k i c < 521 := by unfold byS; split <;> omega
  have e1 : (spnS s k t i c).id = ((i + 1 : Nat) : Int) := rfl
  have e2 : (spnS s k t i c).pa = ((paN c i : Nat) : Int) := rfl
  have e3 : (spnS s k t i c).st = (((stL t).getD i 0 : Nat) : Int) + byS s k i c := rfl
  have e4 : (spnS s k t i c).en = (((enL t).getD i 0 : Nat) : Int) + byS s k i c := rfl
  rw [e1, e2, e3, e4]
  omega
end Go.Proofs.YtegcmciglakicaaGreat
namespace Go.Proofs.YtegcmciglakicaaGreat
open Go.RowKit Go.Exe
set_option linter.unusedVariables false
set_option linter.unusedSimpArgs false
set_option maxHeartbeats 8000000
set_option maxRecDepth 100000
def numA (x : Spn) : List AV := [.flat (.int .i64 x.tr), .flat (.int .i64 x.id), .flat (.int .i64 x.pa), .flat (.int .i64 x.rev), .flat (.int .i64 x.clk), .flat (.int .i64 x.kd), .flat (.string x.sv), .flat (.string x.ve), .flat (.string x.op), .flat (.int .i64 x.st), .flat (.int .i64 x.en), .flat (.bool x.er), .sl 150 (x.ats.map attA), .flat (.slice none 0 0)]
theorem numA_le (x : Spn) (h : x.lks = []) : Al CLe ((numA x).map Cell.im) ((spA x).map Cell.im) := by
  simp only [numA, spA, List.map, h]
  repeat (first | exact Al.nil | (refine Al.cons (by first | exact CLe.rfl | exact CLe.nil) ?_))
theorem numL_le {l : List Spn} (h : ∀ x ∈ l, x.lks = []) : Al (Al CLe) (imR (l.map numA)) (imR (l.map spA)) := by
  refine ⟨by simp [imR], fun i u x hu hx => ?_⟩
  simp only [imR, List.map_map, List.getElem?_map, Option.map_eq_some_iff] at hu hx
  obtain ⟨s, hs, rfl⟩ := hu
  obtain ⟨s', hs', rfl⟩ := hx
  rw [hs] at hs'
  cases hs'
  exact numA_le _ (h s (List.mem_of_getElem? hs))
/-- The records behind a place, turned around with their other numbers. -/
def numR (b : Nat) (l : List Spn) (n : Nat) : List Spn := ((l.drop n).map (numX b)).reverse
attribute [local irreducible] W AX Run RunD AStep AOp AOpX AStB AStH AStG Fits PCall GCall PostG Post Stop
theorem numbers_c (c141 : SortC Tryz.prog 141 14) (c60 : SortI Tryz.prog 60) (g62 : GrowC Tryz.prog 62 3 1 8) (c36 : SortC Tryz.prog 36 3) (c89 : SortC Tryz.prog 89 2) (s : Sto) (hsB : s.okB) (b : Nat) (hbb : b < 256) :
    PCall Tryz.prog 3 [stoT s, ft (.int .u8 (b : Nat))] (ft (.bool true)) := by
  have c7 := known_all c36 c89
  have c8 := short_c s
  cases hsh : shortS s
  · rw [hsh] at c8
    simp only [stoT, stoA, List.map] at c8 ⊢
    refine PCall.intro (nt := 85) (rs := [.tmp 4]) Tryz.func3 rfl ⟨by kernel_rfl, by kernel_rfl, by kernel_rfl⟩ (by simp) ?_
    rintro ⟨P, w0, ok0, may, np, pblk⟩ rfl rfl
    repeat' (first | ((show W _ _ _ _); first | refine W.seq fun K hK => ?_ | refine W.block ?_ | ((first | refine wR ?_ | refine wD ?_ | refine W.skip ?_ | refine W.exit ?_ | refine W.ret (Post.ret ?_)); simp only [go_sem, reduceCtorEq]) | refine wT ?_ | refine wF ?_ | refine wC (fun h => ?_) (fun h => ?_)) | ((show AX _ _ _ _ _); (first | refine aP ?_ | refine aF ?_ | refine aL ?_ | refine aU ?_ | refine aM ?_ | refine aN ?_ | refine aR ?_ | refine aD ?_); simp only [go_sem, reduceCtorEq]) | refine iK ?_ | refine aI2 ?_ | (refine hK _ ?_; clear hK K) | clear hK K)
  have hs := hsB.ok hsh
  rw [hsh] at c8
  have c9 := spans_c s hs
  have gd := story_gd hs
  have hlen := story_len hs
  have hbn := story_b hs
  clear hsh
  simp only [stoT, stoA, List.map] at c8 c9 ⊢
  generalize spansS s = l at c9 gd hlen hbn
  have e0 : IntKind.i64.wrap ((l.length : Int) - 1) = (l.length : Int) - 1 := w64 (by omega) (by omega)
  refine PCall.intro (nt := 85) (rs := [.tmp 4]) Tryz.func3 rfl ⟨by kernel_rfl, by kernel_rfl, by kernel_rfl⟩ (by simp) ?_
  rintro ⟨P, w0, ok0, may, np, pblk⟩ rfl rfl
  repeat' (first | ((show W _ _ _ _); first | refine W.seq fun K hK => ?_ | refine W.block ?_ | ((first | refine wR ?_ | refine wD ?_ | refine W.skip ?_ | refine W.exit ?_ | refine W.ret (Post.ret ?_)); simp only [go_sem, reduceCtorEq, List.length_map, e0]) | refine wT ?_ | refine wF ?_ | refine wC (fun h => ?_) (fun h => ?_)) | ((show AX _ _ _ _ _); (first | refine aP ?_ | refine aF ?_ | refine aL ?_ | refine aU (hnn := by simp only [go_sem, reduceCtorEq, List.length_map, e0]) ?_ | refine aM ?_ | refine aN ?_ | refine aR ?_ | refine aD ?_); simp only [go_sem, reduceCtorEq, List.length_map, e0]) | refine iK ?_ | refine aI2 ?_ | (refine hK _ ?_; clear hK K) | clear hK K)
  refine W.loopF (T := fun n : Nat => { t := [(1, ft (.int .u8 (b : Nat))), (4, ft (.bool false)), (5, spsT l), (6, .c (.ref 0)), (7, ft (.int .i64 ((n : Int) - 1)))], h := [(0, .row 35 (imR ((numR b l n).map numA)))], nx := 1, ex := [], nt := 85 })
    (Inv := fun n => n ≤ l.length) (μ := fun n => n) (x0 := l.length) ?_ (Nat.le_refl _) ?_
  · refine Fits.adopt 6 99 35 rfl rfl rfl tE35 rfl ?_
    refine Fits.fit [(99, 0)] [1, 4, 5, 6, 7] 1 rfl rfl ?_
    simp only [go_sem, numR, List.drop_length, List.map_nil, List.reverse_nil, imR_nil]
    exact Fits.rfl
  clear c7 c8 c9
  have c10 := traceIds_c c60 l fun x hx => (gd.int x hx).1
  rintro n hn KL hKL
  rcases n with _ | m
  rotate_left
  · obtain ⟨x, hx, hm, hd⟩ := drop_at (show m < l.length by omega)
    obtain ⟨⟨i1, i2⟩, ⟨p1, p2⟩, ⟨s1, s2⟩, n1, n2⟩ := hbn x hm
    have e1 : ((m + 1 : Nat) : Int) - 1 = (m : Int) := by omega
    have e2 : decide ((m : Int) ≥ 0) = true := by simp
    have e3 : IntKind.i64.wrap ((m : Int) - 1) = (m : Int) - 1 := w64 (by omega) (by omega)
    have w1 : IntKind.i64.wrap (200 - x.id) = 200 - x.id := w64 (by omega) (by omega)
    have w2 := w64n b (by omega)
    have w3 : IntKind.i64.wrap (200 - x.id + (b : Int)) = numF b x.id := w64 (by omega) (by omega)
    have w4 : IntKind.i64.wrap (200 - x.pa) = 200 - x.pa := w64 (by omega) (by omega)
    have w5 : IntKind.i64.wrap (200 - x.pa + (b : Int)) = numF b x.pa := w64 (by omega) (by omega)
    have w6 : IntKind.i64.wrap (x.st + 9) = x.st + 9 := w64 (by omega) (by omega)
    have w7 : IntKind.i64.wrap (x.en + 9) = x.en + 9 := w64 (by omega) (by omega)
    have hsn : numR b l m = numR b l (m + 1) ++ [numX b x] := by
      unfold numR
      rw [List.drop_eq_getElem_cons (show m < l.length by omega)]
      have : l[m] = x := by rw [List.getElem?_eq_getElem (by omega)] at hx; exact Option.some.inj hx
      simp [this]
    have himR : imR ((numR b l m).map numA) = imR ((numR b l (m + 1)).map numA) ++ [(numA (numX b x)).map .im] := by rw [hsn]; simp [imR, imL]
    have hrl : (numR b l (m + 1)).length ≤ 24 := by simp [numR]; omega
    clear c10
    rw [e1]
    cases h0 : decide (x.pa > 0)
    · have hpa : (numX b x).pa = x.pa := by simp only [decide_eq_false_iff_not] at h0; show (if x.pa > 0 then numF b x.pa else x.pa) = _; rw [if_neg h0]
      repeat' (first | ((show W _ _ _ _); first | refine W.seq fun K hK => ?_ | refine W.block ?_ | ((first | refine wR ?_ | refine wD ?_ | refine W.skip ?_ | refine W.exit ?_ | refine W.ret (Post.ret ?_)); simp only [go_sem, reduceCtorEq, List.getElem?_map, hx, spA, List.length_map, imR_len, e2, e3, w1, w2, w3, w6, w7, h0]) | refine wT ?_ | refine wF ?_ | refine wC (fun h => ?_) (fun h => ?_)) | ((show AX _ _ _ _ _); (first | refine aP ?_ | refine aF ?_ | refine aL ?_ | refine aU (hnn := by simp only [go_sem, reduceCtorEq, List.getElem?_map, hx, spA, List.length_map, imR_len, e2, e3, w1, w2, w3, w6, w7, h0]) ?_ | refine aM ?_ | refine aN ?_ | refine aR ?_ | refine aD ?_); simp only [go_sem, reduceCtorEq, List.getElem?_map, hx, spA, List.length_map, imR_len, e2, e3, w1, w2, w3, w6, w7, h0]) | refine iK ?_ | refine aI2 ?_ | (refine hK _ ?_; clear hK K) | clear hK K)
      refine hKL.to m (by omega) (by omega) ?_
      refine Fits.fit [(37, 0)] [1, 4, 5, 6, 7] 1 rfl rfl ?_
      simp only [go_sem, himR, numA, hpa, List.map]
      exact Fits.rfl
    · have hpa : (numX b x).pa = numF b x.pa := by simp only [decide_eq_true_eq] at h0; show (if x.pa > 0 then numF b x.pa else x.pa) = _; rw [if_pos h0]
      repeat' (first | ((show W _ _ _ _); first | refine W.seq fun K hK => ?_ | refine W.block ?_ | ((first | refine wR ?_ | refine wD ?_ | refine W.skip ?_ | refine W.exit ?_ | refine W.ret (Post.ret ?_)); simp only [go_sem, reduceCtorEq, List.getElem?_map, hx, spA, List.length_map, imR_len, e2, e3, w1, w2, w3, w4, w5, w6, w7, h0]) | refine wT ?_ | refine wF ?_ | refine wC (fun h => ?_) (fun h => ?_)) | ((show AX _ _ _ _ _); (first | refine aP ?_ | refine aF ?_ | refine aL ?_ | refine aU (hnn := by simp only [go_sem, reduceCtorEq, List.getElem?_map, hx, spA, List.length_map, imR_len, e2, e3, w1, w2, w3, w4, w5, w6, w7, h0]) ?_ | refine aM ?_ | refine aN ?_ | refine aR ?_ | refine aD ?_); simp only [go_sem, reduceCtorEq, List.getElem?_map, hx, spA, List.length_map, imR_len, e2, e3, w1, w2, w3, w4, w5, w6, w7, h0]) | refine iK ?_ | refine aI2 ?_ | (refine hK _ ?_; clear hK K) | clear hK K)
      refine hKL.to m (by omega) (by omega) ?_
      refine Fits.fit [(45, 0)] [1, 4, 5, 6, 7] 1 rfl rfl ?_
      simp only [go_sem, himR, numA, hpa, List.map]
      exact Fits.rfl
  have e1 : decide (((0 : Nat) : Int) - 1 ≥ 0) = false := by decide
  clear hKL
  repeat' (first | ((show W _ _ _ _); first | refine W.stop (id := 14) ?_ | refine W.seq fun K hK => ?_ | refine W.block ?_ | ((first | refine wR ?_ | refine wD ?_ | refine W.skip ?_ | refine W.exit ?_ | refine W.ret (Post.ret ?_)); simp only [go_sem, reduceCtorEq, e1]) | refine wT ?_ | refine wF ?_ | refine wC (fun h => ?_) (fun h => ?_)) | ((show AX _ _ _ _ _); (first | refine aP ?_ | refine aF ?_ | refine aL ?_ | refine aU (hnn := by simp only [go_sem, reduceCtorEq, e1]) ?_ | refine aM ?_ | refine aN ?_ | refine aR ?_ | refine aD ?_); simp only [go_sem, reduceCtorEq, e1]) | refine iK ?_ | refine aI2 ?_ | (refine hK _ ?_; clear hK K) | clear hK K)
  refine Stop.out ?_
  refine W.fits (s' := { t := [(4, ft (.bool false)), (5, spsT l), (6, spsT (numR b l 0))], h := [], nx := 1, ex := [], nt := 85 }) ?_ ?_
  · refine Fits.rowLe 0 _ rfl (numL_le (l := numR b l 0) fun x hx => ?_) ?_
    · obtain ⟨y, _, rfl⟩ := List.mem_map.1 (List.mem_reverse.1 hx)
      rfl
    refine Fits.freeze 0 rfl (unim_im _) ?_
    refine Fits.seeT 6 0 rfl (.inl rfl) rfl ?_
    refine Fits.fit [] [4, 5, 6] 1 rfl rfl ?_
    simp only [go_sem]
    exact Fits.rfl
  rw [show numR b l 0 = (l.map (numX b)).reverse by simp [numR]]
  have hof : ∀ t, ofS ((l.map (numX b)).reverse) t = ((trF l t).map (numX b)).reverse := fun t => by
    rw [← trF_num]
    refine ofS_perm (List.Perm.refl _) ?_
    rw [trF_num]
    exact num_sorted b (gd.srt t)
  generalize hk : (l.map (numX b)).reverse = k at hof
  clear hn
  have htm : ∀ t ∈ tracesS l, ∃ p ∈ l, p.tr = t := fun t ht => tracesS_mem ht
  have htl : (tracesS l).length ≤ l.length := by unfold tracesS srtI; rw [(List.mergeSort_perm _ _).length_eq]; exact trIds_le l _
  generalize tracesS l = ids at c10 htm htl
  repeat' (first | ((show W _ _ _ _); first | refine W.seq fun K hK => ?_ | refine W.block ?_ | ((first | refine wR ?_ | refine wD ?_ | refine W.skip ?_ | refine W.exit ?_ | refine W.ret (Post.ret ?_)); simp only [go_sem, reduceCtorEq]) | refine wT ?_ | refine wF ?_ | refine wC (fun h => ?_) (fun h => ?_)) | ((show AX _ _ _ _ _); (first | refine aP ?_ | refine aF ?_ | refine aL ?_ | refine aU ?_ | refine aM ?_ | refine aN ?_ | refine aR ?_ | refine aD ?_); simp only [go_sem, reduceCtorEq]) | refine iK ?_ | refine aI2 ?_ | (refine hK _ ?_; clear hK K) | clear hK K)
  refine W.loopF (T := fun i : Nat => { t := [(4, ft (.bool false)), (5, spsT l), (6, spsT k), (9, intsT ids), (10, ft (.int .i64 (i : Nat)))], h := [], nx := 0, ex := [], nt := 85 })
    (Inv := fun i => i ≤ ids.length) (μ := fun i => ids.length - i) (x0 := 0) (Fits.fit [] [4, 5, 6, 9, 10] 0 rfl rfl Fits.rfl) (Nat.zero_le _) ?_
  clear c10
  rintro i hi KL hKL
  by_cases hlt : i < ids.length
  · obtain ⟨t, hx, hm, hd⟩ := drop_at hlt
    have e2 : decide ((i : Int) < ids.length) = true := by simp; omega
    have hw := w64s i (by omega)
    have hsub : ∀ x ∈ trF l t, x ∈ l := fun x hx => (mem_trF.1 hx).1
    have R := num_ren b (ss := trF l t) (fun x hx => (hbn x (hsub x hx)).1) (fun x hx => (hbn x (hsub x hx)).2.1)
    have c12 := trace_c c141 c60 g62 c36 l t (trF l t) (gd.of t) (gd.srt t) (gd.ints t)
    have c12' := trace_c c141 c60 g62 c36 k t _ (hof t) (num_sorted b (gd.srt t)) (fun y hy => by
      obtain ⟨x, hx, rfl⟩ := List.mem_map.1 (List.mem_reverse.1 hy)
      have h1 := (hbn x (hsub x hx)).1
      have h2 := (hbn x (hsub x hx)).2.1
      refine ⟨?_, ?_⟩
      · show I64 (numF b x.id); unfold I64 numF; omega
      · show I64 (if x.pa > 0 then numF b x.pa else x.pa); unfold I64 numF; split <;> omega)
    rw [ren_trace R (gd.nd t)] at c12'
    generalize srt ((lev (trF l t) 0).map (shpF (trF l t) (trF l t).length)) = ks at c12 c12'
    have c11 := all11 (.mk .empty .empty ks) (.mk .empty .empty ks)
    rw [same_refl] at c11
    simp only [shT_mk] at c12 c12' c11
    repeat' (first | ((show W _ _ _ _); first | refine W.seq fun K hK => ?_ | refine W.block ?_ | ((first | refine wR ?_ | refine wD ?_ | refine W.skip ?_ | refine W.exit ?_ | refine W.ret (Post.ret ?_)); simp only [go_sem, reduceCtorEq, List.getElem?_map, hx, iA, e2, hw, List.length_map]) | refine wT ?_ | refine wF ?_ | refine wC (fun h => ?_) (fun h => ?_)) | ((show AX _ _ _ _ _); (first | refine aP ?_ | refine aF ?_ | refine aL ?_ | refine aU (hnn := by simp only [go_sem, reduceCtorEq, List.getElem?_map, hx, iA, e2, hw, List.length_map]) ?_ | refine aM ?_ | refine aN ?_ | refine aR ?_ | refine aD ?_); simp only [go_sem, reduceCtorEq, List.getElem?_map, hx, iA, e2, hw, List.length_map]) | refine iK ?_ | refine aI2 ?_ | (refine hK _ ?_; clear hK K) | clear hK K)
    refine hKL.to (i + 1) (by omega) (by omega) (Fits.fit [] [4, 5, 6, 9, 10] 0 rfl rfl ?_)
    simp only [go_sem]
    exact Fits.rfl
  obtain rfl : i = ids.length := by omega
  have e2 : decide ((ids.length : Int) < ids.length) = false := by simp
  clear hKL
  repeat' (first | ((show W _ _ _ _); first | refine W.seq fun K hK => ?_ | refine W.block ?_ | ((first | refine wR ?_ | refine wD ?_ | refine W.skip ?_ | refine W.exit ?_ | refine W.ret (Post.ret ?_)); simp only [go_sem, reduceCtorEq, e2, List.length_map]) | refine wT ?_ | refine wF ?_ | refine wC (fun h => ?_) (fun h => ?_)) | ((show AX _ _ _ _ _); (first | refine aP ?_ | refine aF ?_ | refine aL ?_ | refine aU (hnn := by simp only [go_sem, reduceCtorEq, e2, List.length_map]) ?_ | refine aM ?_ | refine aN ?_ | refine aR ?_ | refine aD ?_); simp only [go_sem, reduceCtorEq, e2, List.length_map]) | refine iK ?_ | refine aI2 ?_ | (refine hK _ ?_; clear hK K) | clear hK K)
end Go.Proofs.YtegcmciglakicaaGreat
namespace Go.Proofs.YtegcmciglakicaaGreat
open Go.ChangeShapes Go.WideShapes Go.ChangeAt Go.RowKit Go.Exe
set_option maxRecDepth 100000
theorem Tryz.own : ownKnob Tryz.prog.godebug = none := by kernel_rfl
theorem Tryz.laidOut : laidOutB Tryz.prog = true := by kernel_rfl
theorem under4 : Tryz.prog.underlying 4 = some .bool := by kernel_rfl
/-! ### stories that came in -/
theorem i8_in {f : Nat} {xs : List AV} (h : Typ Tryz.prog (f + 1) 23 xs) : ∃ n : Int, i8 n ∧ xs = [.flat (.int .i8 n)] := by
  obtain ⟨n, rfl, h1, h2⟩ := Typ.int tU23 h
  simp [IntKind.min, IntKind.max, IntKind.signed, IntKind.bits] at h1 h2
  exact ⟨n, ⟨h1, h2⟩, rfl⟩
theorem cal_in {f : Nat} {xs : List AV} (h : Typ Tryz.prog (f + 2) 193 xs) : ∃ c : Cal, c.ok ∧ xs = calA c := by
  obtain ⟨parts, rfl, hp⟩ := Typ.st (ts := [5, 5, 5, 5, 5, 5, 5, 5, 5, 5, 4]) (by kernel_rfl) h
  match parts, hp with
  | [a0, a1, a2, a3, a4, a5, a6, a7, a8, a9, a10], hp =>
    simp only [Al.cons_iff] at hp
    obtain ⟨h0, h1, h2, h3, h4, h5, h6, h7, h8, h9, h10, _⟩ := hp
    obtain ⟨n0, rfl, b0⟩ := Typ.u8 tU5 h0
    obtain ⟨n1, rfl, b1⟩ := Typ.u8 tU5 h1
    obtain ⟨n2, rfl, b2⟩ := Typ.u8 tU5 h2
    obtain ⟨n3, rfl, b3⟩ := Typ.u8 tU5 h3
    obtain ⟨n4, rfl, b4⟩ := Typ.u8 tU5 h4
    obtain ⟨n5, rfl, b5⟩ := Typ.u8 tU5 h5
    obtain ⟨n6, rfl, b6⟩ := Typ.u8 tU5 h6
    obtain ⟨n7, rfl, b7⟩ := Typ.u8 tU5 h7
    obtain ⟨n8, rfl, b8⟩ := Typ.u8 tU5 h8
    obtain ⟨n9, rfl, b9⟩ := Typ.u8 tU5 h9
    obtain ⟨b, rfl⟩ := Typ.bool tU4 h10
    exact ⟨⟨n0, n1, n2, n3, n4, n5, n6, n7, n8, n9, b⟩, ⟨b0, b1, b2, b3, b4, b5, b6, b7, b8, b9⟩, rfl⟩
theorem tre_in {f : Nat} {xs : List AV} (h : Typ Tryz.prog (f + 4) 91 xs) : ∃ t : Tre, t.okB ∧ xs = treA t := by
  obtain ⟨parts, rfl, hp⟩ := Typ.st (ts := [5, 5, 89]) (by kernel_rfl) h
  match parts, hp with
  | [a0, a1, a2], hp =>
    simp only [Al.cons_iff] at hp
    obtain ⟨h0, h1, h2, _⟩ := hp
    obtain ⟨n0, rfl, b0⟩ := Typ.u8 tU5 h0
    obtain ⟨n1, rfl, b1⟩ := Typ.u8 tU5 h1
    obtain ⟨rows, rfl, hr⟩ := Typ.sl tL89 h2
    obtain ⟨cs, hcs, rfl⟩ := rows_of (ok := Cal.ok) (enc := calA) fun r hr' => cal_in (hr r hr')
    exact ⟨⟨n0, n1, cs⟩, ⟨b0, b1, hcs⟩, rfl⟩
theorem sto_in {f : Nat} {xs : List AV} (h : Typ Tryz.prog (f + 6) 27 xs) : ∃ s : Sto, s.okB ∧ xs = stoA s := by
  obtain ⟨parts, rfl, hp⟩ := Typ.st (ts := [22, 24, 25, 5]) (by kernel_rfl) h
  match parts, hp with
  | [a0, a1, a2, a3], hp =>
    simp only [Al.cons_iff] at hp
    obtain ⟨h0, h1, h2, h3, _⟩ := hp
    obtain ⟨rows, rfl, hr⟩ := Typ.sl tL22 h0
    obtain ⟨ts, hts, rfl⟩ := rows_of (ok := Tre.okB) (enc := treA) fun r hr' => tre_in (hr r hr')
    obtain ⟨offs, rfl, hol, ho⟩ := Typ.arr (n := 4) (e := 23) (by kernel_rfl) h1
    obtain ⟨sy, rfl, hs⟩ := Typ.sl tL25 h2
    obtain ⟨w, rfl, bw⟩ := Typ.u8 tU5 h3
    match offs, hol with
    | [q1, q2, q3, q4], _ =>
      obtain ⟨o1, c1, rfl⟩ := i8_in (ho q1 (by simp))
      obtain ⟨o2, c2, rfl⟩ := i8_in (ho q2 (by simp))
      obtain ⟨o3, c3, rfl⟩ := i8_in (ho q3 (by simp))
      obtain ⟨o4, c4, rfl⟩ := i8_in (ho q4 (by simp))
      exact ⟨⟨ts, o1, o2, o3, o4, sy, w⟩, ⟨hts, c1, c2, c3, c4, bw⟩, rfl⟩
theorem ref_in {f : Nat} {xs : List AV} (h : Typ Tryz.prog (f + 2) 56 xs) : ∃ r : Rf, xs = refA r := by
  obtain ⟨parts, rfl, hp⟩ := Typ.st (ts := [3, 3]) (by kernel_rfl) h
  match parts, hp with
  | [a0, a1], hp =>
    simp only [Al.cons_iff] at hp
    obtain ⟨h0, h1, _⟩ := hp
    obtain ⟨n0, rfl, _⟩ := Typ.int tU3 h0
    obtain ⟨n1, rfl, _⟩ := Typ.int tU3 h1
    exact ⟨(n0, n1), rfl⟩
end Go.Proofs.YtegcmciglakicaaGreat
namespace Go.Proofs.YtegcmciglakicaaGreat
open Go.ChangeShapes Go.WideShapes Go.ChangeAt Go.RowKit Go.Exe
set_option maxRecDepth 100000
set_option maxHeartbeats 1600000

def numbersC : Prop := ∀ (x0 : List AV) (x1 : AV), Typ Tryz.prog 6 27 x0 → Typ Tryz.prog 6 5 [x1] → PCall Tryz.prog 3 [.g (x0.map .im), .c (.im x1)] (ft (.bool true))
theorem numbers_lifted (hc : numbersC) (os : Os) (started : os.Started) (H : Type) (enc : TypeId × Value → H) :
    ReturnsInHanded {} Tryz.checked os 3 .any (Rows.shapeNumbersSpec.pre6 enc Tryz.prog Tryz.f3 Rows.shapeNumbersRow.domain false) (Rows.shapeNumbersSpec.post enc Tryz.prog Tryz.f3 false Rows.shapeNumbersRow.fresh Rows.shapeNumbersRow.handsOn Rows.shapeNumbersRow.again) := by
  refine returnsInHanded_of_change_sized (C := Tryz.checked) Tryz.own started (by kernel_rfl) Tryz.func3
    (ChangeSpec.witness6 (enc := enc) (C := Tryz.checked) false ⟨#[], #[.agg #[.slice none 0 0, .int .i8 0, .int .i8 0, .int .i8 0, .int .i8 0, .slice none 0 0, .int .u8 0], .int .u8 0], []⟩ 8 (by kernel_rfl) (by kernel_rfl) (by kernel_rfl) (by kernel_rfl)) ?_
  intro W base args ds gs before hval0 hW _ hsz0 _
  have hsz : (DataW.weightsEach Tryz.prog (Tryz.f3.params.toList ++ Rows.shapeNumbersSpec.plain.varTypes Tryz.prog) (ds ++ gs)).all (· ≤ reachBytes) = true := hsz0
  clear hsz0
  have hval : ∀ (j : Nat) t v, Tryz.f3.params[j]? = some t → args[j]? = some v → Value.okWide Tryz.prog W .any base t v := hval0
  have hW' := hW
  obtain ⟨p, q, hA0, hV, rfl, hfz, hnd⟩ := hW
  have hA : DataW.TrodAll enc Tryz.prog W 0 (fun _ => true) true Tryz.f3.params.toList args.toList ds p := hA0
  rw [Tryz.params3] at hA hval hsz
  obtain ⟨v0, v1, d0, d1, p0, p1, rfl, rfl, rfl, h0, h1⟩ := trodAll_two hA
  obtain ⟨rfl, rfl⟩ := trodVars_none hV
  clear hA0 hval0
  simp only [List.append_nil] at hW'
  obtain ⟨x0, r0, y0⟩ := arg_g (j := 0) 6 (by kernel_rfl) (by obtain ⟨cs, hcs, _⟩ := okWide_struct rfl (hval 0 27 v0 rfl rfl); exact ⟨cs, hcs⟩) h0 hsz rfl rfl
  obtain ⟨x1, r1, y1⟩ := arg_c (j := 1) 6 (by kernel_rfl) (by obtain ⟨z, hz⟩ := okWide_int rfl (hval 1 5 v1 rfl rfl); rw [hz]; rfl) h1 hsz rfl rfl
  have hlt : ∀ x ∈ p0 ++ p1, x.block < W.heap.size := fun x hx => by simpa using hW'.lt x hx
  have hargs : ∀ (W' : World), Below W.heap.size W W' → DataW.TrodAll enc Tryz.prog W' 0 (fun b => decide (b < W.heap.size)) true Tryz.f3.params.toList [v0, v1] [d0, d1] (p0 ++ p1) := fun W' hn => by
    have k27 : ∀ {v d ps}, DataW.Trod enc Tryz.prog W 0 (fun _ => true) true 27 v d ps → (∀ x ∈ ps, x.block < W.heap.size) → DataW.Trod enc Tryz.prog W' 0 (fun b => decide (b < W.heap.size)) true 27 v d ps :=
      fun h hl => Below.trod Tryz.laidOut (by kernel_rfl) (of_decide_eq_true (by kernel_rfl)) h hn hl
    have k5 : ∀ {v d ps}, DataW.Trod enc Tryz.prog W 0 (fun _ => true) true 5 v d ps → (∀ x ∈ ps, x.block < W.heap.size) → DataW.Trod enc Tryz.prog W' 0 (fun b => decide (b < W.heap.size)) true 5 v d ps :=
      fun h hl => Below.trod Tryz.laidOut (by kernel_rfl) (of_decide_eq_true (by kernel_rfl)) h hn hl
    rw [Tryz.params3]
    exact trodAll_mk2 (k27 h0 fun x hx => hlt x (by simp [hx])) (k5 h1 fun x hx => hlt x (by simp [hx]))
  have hcall := (hc x0 x1 y0 y1).2 (fun _ => True) W [v0, v1] (Al.cons r0 (Al.cons r1 Al.nil))
  refine hcall.mono fun e W' ⟨v, he, ⟨hB, _⟩, hr⟩ => ?_
  subst he
  obtain rfl : v = .bool true := RepA.flat_eq hr
  refine ⟨_, rfl, _, _, _, [], p0 ++ p1, [], hW', ?_, ?_, ?_, hB.frame _, fun h => by cases h⟩
  · exact trodAll_mk1 (shut_bool under4 true)
  · exact hargs W' hB
  · rfl
theorem numbers_holds (hc : numbersC) : Rows.ShapeNumbersSaid :=
  OpenClaim.holds_of_wide 3 Tryz.f3 rfl rfl rfl rfl rfl rfl rfl ⟨rfl, rfl, rfl, rfl, rfl⟩ rfl rfl rfl rfl rfl (by kernel_rfl) Tryz.func3 (by kernel_rfl)
    (of_decide_eq_true (by kernel_rfl)) (by unfold Func.isWrapper; rw [if_neg (by decide +kernel)]; exact ⟨rfl, rfl⟩)
    (fun os started H enc _ => numbers_lifted hc os started H enc)
end Go.Proofs.YtegcmciglakicaaGreat
namespace Go.Proofs.YtegcmciglakicaaGreat
open Go.RowKit Go.Exe
set_option maxRecDepth 100000
theorem ytegcmciglakicaagreat_shapeNumbers_holds : Rows.ShapeNumbersSaid := numbers_holds fun x0 x1 h0 h1 => by
  obtain ⟨s, hs, rfl⟩ := sto_in (f := 0) h0
  obtain ⟨n, hx, hn⟩ := Typ.u8 tU5 h1
  obtain rfl : x1 = .flat (.int .u8 (n : Nat)) := by simpa using hx
  exact numbers_c sort141_c sort60_c grow62_c sort36_c sort89_c s hs n hn
end Go.Proofs.YtegcmciglakicaaGreat
