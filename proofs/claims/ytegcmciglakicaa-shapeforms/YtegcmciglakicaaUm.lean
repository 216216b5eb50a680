import Derived.Test.YtegcmciglakicaaUl
import Derived.Test.YtegcmciglakicaaTr
namespace Go.Proofs.Ytegcmciglakicaa
open Go.RowKit Go.Exe
set_option linter.unusedVariables false
set_option linter.unusedSimpArgs false
set_option maxRecDepth 100000

theorem all34 : ∀ x y : Shp, PCall Try.prog 34 [shT x, shT y] (ft (.int .i64 (x.cmp y))) := shcompare_all cmpOr_c
theorem all12 (c35 : SortC Try.prog 35 3) : ∀ x : Shp, PCall Try.prog 12 [shT x] (shT x.canon)
  | .mk s o ks => canonical_c c35 all34 lwS.ord srt_perm srt_uni s o ks fun x hx => all12 c35 x
termination_by x => SizeOf.sizeOf x
decreasing_by
  have := List.sizeOf_lt_of_mem hx
  simp only [Shp.mk.sizeOf_spec]
  omega
theorem all14 : ∀ x y : Shp, PCall Try.prog 14 [shT x, shT y] (ft (.int .i64 (x.cmp y)))
  | .mk s o ks, .mk s' o' ks' => mcompare_c sign_c compareStrings_c s o s' o' ks ks' fun x hx y hy => all14 x y
termination_by x => SizeOf.sizeOf x
decreasing_by
  have := List.sizeOf_lt_of_mem hx
  simp only [Shp.mk.sizeOf_spec]
  omega
theorem all13 : ∀ x : Shp, PCall Try.prog 13 [shT x] (shT x.mcanon)
  | .mk s o ks => mcanonical_c all14 s o ks fun x hx => all13 x
termination_by x => SizeOf.sizeOf x
decreasing_by
  have := List.sizeOf_lt_of_mem hx
  simp only [Shp.mk.sizeOf_spec]
  omega
theorem all11 : ∀ x y : Shp, PCall Try.prog 11 [shT x, shT y] (ft (.bool (x.same y)))
  | .mk s o ks, .mk s' o' ks' => same_c s o s' o' ks ks' fun x hx y hy => all11 x y
termination_by x => SizeOf.sizeOf x
decreasing_by
  have := List.sizeOf_lt_of_mem hx
  simp only [Shp.mk.sizeOf_spec]
  omega
theorem size_mem {ks : List Shp} {x : Shp} (h : x ∈ ks) : x.size ≤ sizes ks := by
  induction ks with
  | nil => simp at h
  | cons y r ih =>
    rcases List.mem_cons.1 h with rfl | h
    · simp [sizes]
    · have := ih h; simp only [sizes]; omega
theorem all16 : ∀ x : Shp, x.size ≤ 9223372036854775807 → PCall Try.prog 16 [shT x] (ft (.int .i64 x.size))
  | .mk s o ks, h => Size_c s o ks h fun x hx => all16 x (by have := size_mem hx; simp only [Shp.size] at h; omega)
termination_by x => SizeOf.sizeOf x
decreasing_by
  have := List.sizeOf_lt_of_mem hx
  simp only [Shp.mk.sizeOf_spec]
  omega
theorem all17 : ∀ x : Shp, x.size ≤ 9223372036854775807 → PCall Try.prog 17 [shT x] (ft (.int .i64 x.size))
  | .mk s o ks, h => size_c s o ks h fun x hx => all17 x (by have := size_mem hx; simp only [Shp.size] at h; omega)
termination_by x => SizeOf.sizeOf x
decreasing_by
  have := List.sizeOf_lt_of_mem hx
  simp only [Shp.mk.sizeOf_spec]
  omega
theorem all18 : ∀ x : Shp, x.size ≤ 9223372036854775807 → PCall Try.prog 18 [shT x] (ft (.int .i64 x.depth))
  | .mk s o ks, h => Depth_c s o ks h fun x hx => all18 x (by have := size_mem hx; simp only [Shp.size] at h; omega)
termination_by x => SizeOf.sizeOf x
decreasing_by
  have := List.sizeOf_lt_of_mem hx
  simp only [Shp.mk.sizeOf_spec]
  omega
theorem all19 : ∀ x : Shp, x.size ≤ 9223372036854775807 → PCall Try.prog 19 [shT x] (ft (.int .i64 x.depth))
  | .mk s o ks, h => depth_c s o ks h fun x hx => all19 x (by have := size_mem hx; simp only [Shp.size] at h; omega)
termination_by x => SizeOf.sizeOf x
decreasing_by
  have := List.sizeOf_lt_of_mem hx
  simp only [Shp.mk.sizeOf_spec]
  omega
/-! ### the order's numbers -/
theorem cmpB_range (a b : ByteArray) : -1 ≤ cmpB a b ∧ cmpB a b ≤ 1 := by
  simp only [cmpB]
  split
  · omega
  · split <;> omega
theorem cmpN_range (a b : Nm) : -1 ≤ cmpN a b ∧ cmpN a b ≤ 1 := by
  rw [cmpN_eq]
  split
  · exact cmpB_range _ _
  · exact cmpB_range _ _
theorem cmpsG_range {α : Type} {cm : α → α → Int} : ∀ (x y : List α), (∀ a ∈ x, ∀ b, -1 ≤ cm a b ∧ cm a b ≤ 1) → -1 ≤ cmpsG cm x y ∧ cmpsG cm x y ≤ 1
  | [], [], _ => by simp [cmpsG]
  | [], _ :: _, _ => by simp [cmpsG]
  | _ :: _, [], _ => by simp [cmpsG]
  | a :: x, b :: y, h => by
    simp only [cmpsG]
    split
    · exact h a (by simp) b
    · exact cmpsG_range x y fun a ha => h a (by simp [ha])
theorem shp_range : ∀ x y : Shp, -1 ≤ x.cmp y ∧ x.cmp y ≤ 1
  | .mk s o ks, .mk s' o' ks' => by
    rw [cmp_mk]
    split
    · exact cmpN_range _ _
    · exact cmpsG_range ks ks' fun a ha b => shp_range a b
termination_by x => SizeOf.sizeOf x
decreasing_by
  have := List.sizeOf_lt_of_mem ha
  simp only [Shp.mk.sizeOf_spec]
  omega
theorem wrap_neg {n : Int} (h : -1 ≤ n ∧ n ≤ 1) : IntKind.i64.wrap (0 - n) = - n := by
  have : n = -1 ∨ n = 0 ∨ n = 1 := by omega
  rcases this with rfl | rfl | rfl <;> decide
/-! ### ShapeForms -/
theorem forms_all (c35 : SortC Try.prog 35 3) (c8 : PCall Try.prog 8 [] (ft (.bool true))) (p q r : List Nat) (hp : ∀ x ∈ p, x < 256) (hq : ∀ x ∈ q, x < 256) (hr : ∀ x ∈ r, x < 256) (hsz : (madeP p).size ≤ 9223372036854775807) :
    PCall Try.prog 3 [planT p, planT q, planT r] (ft (.bool true)) := by
  have c10 := Compare_c (all12 c35) all34
  refine forms_c p q r (madeP p) (madeP q) (madeP r) c8 (made_c p hp) (made_c q hq) (made_c r hr) c10 ?_ (all12 c35 _) ?_ ?_ (all14 _ _) (Equal_c c10 _ _) (all16 _ hsz) (all17 _ hsz) (all18 _ hsz) (all19 _ hsz) (canon_self _) ?_ ?_
  · have := all11 (madeP p).canon (madeP p).canon
    rwa [same_refl] at this
  · have := all13 (madeP p)
    rwa [mcanon_eq] at this
  · have := all13 (madeP q)
    rwa [mcanon_eq] at this
  · rw [wrap_neg (shp_range _ _)]; exact shp_anti _ _
  · intro h1 h2
    exact shp_tr _ (madeP q).canon _ (by omega) (by omega)
/-! ### how large a made shape is -/
mutual
theorem growF_size : ∀ (f : Nat) (p : List Nat), (growF f p).1.size ≤ 4 * (p.length - (growF f p).2.length) + 1
  | 0, p => by simp [growF, Shp.size, sizes]
  | f + 1, [] => by simp [growF, Shp.size, sizes]
  | f + 1, b :: r => by
    have h1 := kidsF_size f (b / 3 % 4) r
    have h2 := (kidsF_suf f (b / 3 % 4) r).length_le
    simp only [growF, Shp.size, List.length_cons]
    omega
termination_by f _ => (f, 0)
theorem kidsF_size : ∀ (f n : Nat) (p : List Nat), sizes (kidsF f n p).1 ≤ n + 4 * (p.length - (kidsF f n p).2.length)
  | _, 0, l => by simp [kidsF, sizes]
  | _, _ + 1, [] => by simp [kidsF, sizes]
  | f, n + 1, b :: r => by
    have h1 := growF_size f (b :: r)
    have h2 := kidsF_size f n (growF f (b :: r)).2
    have h3 := (growF_suf f (b :: r)).length_le
    have h4 := (kidsF_suf f n (growF f (b :: r)).2).length_le
    simp only [kidsF, sizes]
    omega
termination_by f n _ => (f, n + 1)
end
theorem madeP_size (p : List Nat) : (madeP p).size ≤ 97 := by
  have h := growF_size 24 (p.take 24)
  have : (p.take 24).length ≤ 24 := by simp; omega
  unfold madeP
  omega
/-! ### known -/
theorem cmpPath_ord (l : List Dl) : OrdOn (fun a b : Dl => cmpPath a.1 b.1) l :=
  ⟨fun x _ => (lwPath.ord [x.1]).irrefl _ (by simp), fun x _ y _ z _ => (lwPath.ord [x.1, y.1, z.1]).trans _ (by simp) _ (by simp) _ (by simp), fun x _ y _ z _ => (lwPath.ord [x.1, y.1, z.1]).ntrans _ (by simp) _ (by simp) _ (by simp)⟩
/-- Sorted lists of the same deltas, whose paths are apart, are the same list. -/
theorem dl_uni {zs zs' : List Dl} (hp : zs'.Perm zs) (hn : ∀ a ∈ zs, ∀ b ∈ zs, a.1 = b.1 → a = b) (h1 : zs'.Pairwise fun a b => ¬ cmpPath b.1 a.1 < 0) (h2 : zs.Pairwise fun a b => ¬ cmpPath b.1 a.1 < 0) : zs' = zs := by
  induction zs' generalizing zs with
  | nil => rw [List.nil_perm.1 hp]
  | cons x r ih =>
    cases zs with
    | nil => have := hp.length_eq; simp at this
    | cons y q =>
      rw [List.pairwise_cons] at h1 h2
      have e : x = y := by
        have hx : x ∈ y :: q := hp.subset (by simp)
        have hy : y ∈ x :: r := hp.symm.subset (by simp)
        refine hn x hx y (by simp) ?_
        rcases List.mem_cons.1 hx with e | hx2
        · rw [e]
        · rcases List.mem_cons.1 hy with e | hy2
          · rw [e]
          · have a1 := h1.1 y hy2
            have a2 := h2.1 x hx2
            have a3 := lwPath.anti x.1 y.1
            exact lwPath.eq _ _ (by omega)
      subst e
      rw [ih ((List.perm_cons x).1 hp) (fun a ha b hb => hn a (by simp [ha]) b (by simp [hb])) h1.2 h2.2]
theorem known_all (c35 : SortC Try.prog 35 3) (c55 : SortC Try.prog 55 2) : PCall Try.prog 8 [] (ft (.bool true)) := by
  have c12 := all12 c35 kX
  rw [kX_canon] at c12
  have c15 := Equal_c (Compare_c (all12 c35) all34) kX kY
  rw [kXY] at c15
  have c16 := all16 kX (by rw [kX_size]; omega)
  have c18 := all18 kX (by rw [kX_size]; omega)
  rw [kX_size] at c16
  rw [kX_depth] at c18
  refine known_c c12 c15 c16 c18 (diff_c kX kY kZ ?_ (by decide) (by decide))
  rw [kX_adds]
  refine list_c c55 cmpOr_c _ kZ (by decide) (fun l _ => cmpPath_ord l) ?_ ?_
  · exact List.Perm.swap _ _ _
  · intro zs' hp h1
    have key : ∀ a ∈ kZ, a.2 = -1 := by intro a ha; simp only [kZ, List.mem_cons, List.not_mem_nil, or_false] at ha; rcases ha with rfl | rfl <;> rfl
    refine dl_uni hp (fun a ha b hb e => Prod.ext e ((key a ha).trans (key b hb).symm)) h1 (List.pairwise_cons.2 ⟨fun b hb => ?_, List.pairwise_cons.2 ⟨fun b hb => by simp at hb, List.Pairwise.nil⟩⟩)
    obtain rfl := List.mem_singleton.1 hb
    have : cmpPath [(bApi, bGet), (bDb, bGet)] [(bApi, bGet), (bCache, bGet)] = 1 := by kernel_rfl
    show ¬ cmpPath [(bApi, bGet), (bDb, bGet)] [(bApi, bGet), (bCache, bGet)] < 0
    omega
theorem forms_true (c35 : SortC Try.prog 35 3) (c55 : SortC Try.prog 55 2) (p q r : List Nat) (hp : ∀ x ∈ p, x < 256) (hq : ∀ x ∈ q, x < 256) (hr : ∀ x ∈ r, x < 256) : PCall Try.prog 3 [planT p, planT q, planT r] (ft (.bool true)) :=
  forms_all c35 (known_all c35 c55) p q r hp hq hr (by have := madeP_size p; omega)
end Go.Proofs.Ytegcmciglakicaa
