/-
  ShapeBuilds: at every story and every reference the law answers true: Of returns the shape of each span, or the error; Trace that of each trace, whose size is 1 more than the number of its spans.
-/
import Derived.Test.YtegcmciglakicaaGreatM8
import Derived.Test.YtegcmciglakicaaGreatM5
import Derived.Test.YtegcmciglakicaaGreatM3
import Derived.Test.YtegcmciglakicaaGreatRows
namespace Go.Proofs.YtegcmciglakicaaGreat
open Go.RowKit Go.Exe
set_option linter.unusedVariables false
set_option linter.unusedSimpArgs false
set_option maxHeartbeats 8000000
set_option maxRecDepth 100000
theorem tracesS_mem {l : List Spn} {t : Int} (h : t ∈ tracesS l) : ∃ p ∈ l, p.tr = t := by
  have h1 : t ∈ trIds l l.length := (List.mergeSort_perm _ _).mem_iff.1 h
  have key : ∀ (m a : List Int), t ∈ m.foldl addK a → t ∈ m ∨ t ∈ a := by
    intro m
    induction m with
    | nil => intro a h; exact .inr h
    | cons x r ih =>
      intro a h
      rcases ih _ h with h | h
      · exact .inl (by simp [h])
      · unfold addK at h
        split at h
        · exact .inr h
        · rcases List.mem_append.1 h with h | h
          · exact .inr h
          · simp at h; exact .inl (by simp [h])
  rcases key _ _ h1 with h | h
  · rw [List.take_length] at h
    exact List.mem_map.1 h
  · simp at h
theorem trF_len (l : List Spn) (t : Int) : (trF l t).length ≤ l.length := List.length_filter_le _ _
attribute [local irreducible] W AX Run RunD AStep AOp AOpX AStB AStH AStG Fits PCall GCall PostG Post Stop
theorem builds_c (c141 : SortC Tryz.prog 141 14) (c60 : SortI Tryz.prog 60) (g62 : GrowC Tryz.prog 62 3 1 8) (c36 : SortC Tryz.prog 36 3) (c89 : SortC Tryz.prog 89 2) (s : Sto) (hsB : s.okB) (r : Rf) :
    PCall Tryz.prog 5 [stoT s, .g ((refA r).map .im)] (ft (.bool true)) := by
  have c7 := known_all c36 c89
  have c8 := short_c s
  cases hsh : shortS s
  · rw [hsh] at c8
    simp only [stoT, stoA, refA, List.map] at c8 ⊢
    refine PCall.intro (nt := 128) (rs := [.tmp 4]) Tryz.func5 rfl ⟨by kernel_rfl, by kernel_rfl, by kernel_rfl⟩ (by simp) ?_
    rintro ⟨P, w0, ok0, may, np, pblk⟩ rfl rfl
    repeat' (first | ((show W _ _ _ _); first | refine W.seq fun K hK => ?_ | refine W.block ?_ | ((first | refine wR ?_ | refine wD ?_ | refine W.skip ?_ | refine W.exit ?_ | refine W.ret (Post.ret ?_)); simp only [go_sem, reduceCtorEq]) | refine wT ?_ | refine wF ?_ | refine wC (fun h => ?_) (fun h => ?_)) | ((show AX _ _ _ _ _); (first | refine aP ?_ | refine aF ?_ | refine aL ?_ | refine aU ?_ | refine aM ?_ | refine aN ?_ | refine aR ?_ | refine aD ?_); simp only [go_sem, reduceCtorEq]) | refine iK ?_ | refine aI2 ?_ | (refine hK _ ?_; clear hK K) | clear hK K)
  have hs := hsB.ok hsh
  rw [hsh] at c8
  have c9 := spans_c s hs
  have gd := story_gd hs
  have hlen := story_len hs
  have h5 := story_no5 hs
  clear hsh
  simp only [stoT, stoA, refA, List.map] at c8 c9 ⊢
  generalize spansS s = l at c9 gd hlen h5
  have c11z : ∀ (x : TV), x = .g zShp → PCall Tryz.prog 11 [x, .g zShp] (ft (.bool true)) := fun x hx => by
    subst hx
    have := all11 (.mk .empty .empty []) (.mk .empty .empty [])
    rw [same_refl] at this
    exact this.conv (Al.cons (.g CLe.nil3) (Al.cons (.g CLe.nil3) Al.nil)) .rfl
  refine PCall.intro (nt := 128) (rs := [.tmp 4]) Tryz.func5 rfl ⟨by kernel_rfl, by kernel_rfl, by kernel_rfl⟩ (by simp) ?_
  rintro ⟨P, w0, ok0, may, np, pblk⟩ rfl rfl
  repeat' (first | ((show W _ _ _ _); first | refine W.seq fun K hK => ?_ | refine W.block ?_ | ((first | refine wR ?_ | refine wD ?_ | refine W.skip ?_ | refine W.exit ?_ | refine W.ret (Post.ret ?_)); simp only [go_sem, reduceCtorEq]) | refine wT ?_ | refine wF ?_ | refine wC (fun h => ?_) (fun h => ?_)) | ((show AX _ _ _ _ _); (first | refine aP ?_ | refine aF ?_ | refine aL ?_ | refine aU ?_ | refine aM ?_ | refine aN ?_ | refine aR ?_ | refine aD ?_); simp only [go_sem, reduceCtorEq]) | refine iK ?_ | refine aI2 ?_ | (refine hK _ ?_; clear hK K) | clear hK K)
  refine W.loopF (T := fun i : Nat => { t := [(3, .c (.ptr 0 0)), (4, ft (.bool false)), (5, spsT l), (6, ft (.int .i64 (i : Nat)))], h := [(0, .box 56 [fl (.int .i64 r.1), fl (.int .i64 r.2)])], nx := 1, ex := [], nt := 128 })
    (Inv := fun i => i ≤ l.length) (μ := fun i => l.length - i) (x0 := 0) (Fits.fit [(1, 0)] [3, 4, 5, 6] 1 rfl rfl Fits.rfl) (Nat.zero_le _) ?_
  clear c7 c8 c9
  have c10 := traceIds_c c60 l fun x hx => (gd.int x hx).1
  rintro i hi KL hKL
  by_cases hlt : i < l.length
  · obtain ⟨x, hx, hm, hd⟩ := drop_at hlt
    have e1 : decide ((i : Int) < l.length) = true := by simp; omega
    have hw := w64s i (by omega)
    have hxm : x ∈ trF l x.tr := mem_trF.2 ⟨hm, rfl⟩
    have hdep := gd.dep hxm
    have c15 := refOf_c x
    have c14 := of_c1 c141 c60 g62 c36 l (x.tr, x.id) (trF l x.tr) (gd.of x.tr) (gd.srt x.tr) (gd.ints x.tr) x hxm rfl
    rw [if_neg hdep] at c14
    have c13 := build_c c141 c60 g62 l x.tr (by rw [gd.of]; exact gd.nd _) (by rw [gd.of]; exact gd.ints _)
    rw [gd.of] at c13
    obtain ⟨d, hlev⟩ := gd.lev x.tr x hxm
    have c17 := ofM_c x.tr l (trF l x.tr) (gd.srt _) (by have := trF_len l x.tr; omega) gd.best (trF l x.tr).length d x.id hlev (by omega)
    rw [ofM_shpF] at c17
    obtain ⟨s', o', ks', he⟩ : ∃ s' o' ks', shpF (trF l x.tr) (trF l x.tr).length x.id = .mk s' o' ks' := by
      cases h : shpF (trF l x.tr) (trF l x.tr).length x.id with
      | mk a b c => exact ⟨a, b, c, rfl⟩
    rw [he] at c14 c17
    have c11 := all11 (.mk s' o' ks') (.mk s' o' ks')
    rw [same_refl] at c11
    clear c11z c10
    simp only [spT, spA, refA, trT, trA, List.map, shT_mk, Shp.av] at c15 c14 c13 c17 c11
    generalize treeOf x.tr (trF l x.tr) = tt at c13 c17
    repeat' (first | ((show W _ _ _ _); first | refine W.seq fun K hK => ?_ | refine W.block ?_ | ((first | refine wR ?_ | refine wD ?_ | refine W.skip ?_ | refine W.exit ?_ | refine W.ret (Post.ret ?_)); simp only [go_sem, reduceCtorEq, List.getElem?_map, hx, spA, e1, hw, List.length_map]) | refine wT ?_ | refine wF ?_ | refine wC (fun h => ?_) (fun h => ?_)) | ((show AX _ _ _ _ _); (first | refine aP ?_ | refine aF ?_ | refine aL ?_ | refine aU (hnn := by simp only [go_sem, reduceCtorEq, List.getElem?_map, hx, spA, e1, hw, List.length_map]) ?_ | refine aM ?_ | refine aN ?_ | refine aR ?_ | refine aD ?_); simp only [go_sem, reduceCtorEq, List.getElem?_map, hx, spA, e1, hw, List.length_map]) | refine iK ?_ | refine aI2 ?_ | (refine hK _ ?_; clear hK K) | clear hK K)
    refine hKL.to (i + 1) (by omega) (by omega) (Fits.fit [(0, 0)] [3, 4, 5, 6] 1 rfl rfl ?_)
    simp only [go_sem]
    exact Fits.rfl
  obtain rfl : i = l.length := by omega
  have e1 : decide ((l.length : Int) < l.length) = false := by simp
  clear hKL
  have htm : ∀ t ∈ tracesS l, ∃ p ∈ l, p.tr = t := fun t ht => tracesS_mem ht
  have htl : (tracesS l).length ≤ l.length := by unfold tracesS srtI; rw [(List.mergeSort_perm _ _).length_eq]; exact trIds_le l _
  generalize tracesS l = ids at c10 htm htl
  clear c11z
  repeat' (first | ((show W _ _ _ _); first | refine W.seq fun K hK => ?_ | refine W.block ?_ | ((first | refine wR ?_ | refine wD ?_ | refine W.skip ?_ | refine W.exit ?_ | refine W.ret (Post.ret ?_)); simp only [go_sem, reduceCtorEq, e1, List.length_map]) | refine wT ?_ | refine wF ?_ | refine wC (fun h => ?_) (fun h => ?_)) | ((show AX _ _ _ _ _); (first | refine aP ?_ | refine aF ?_ | refine aL ?_ | refine aU (hnn := by simp only [go_sem, reduceCtorEq, e1, List.length_map]) ?_ | refine aM ?_ | refine aN ?_ | refine aR ?_ | refine aD ?_); simp only [go_sem, reduceCtorEq, e1, List.length_map]) | refine iK ?_ | refine aI2 ?_ | (refine hK _ ?_; clear hK K) | clear hK K)
  refine W.loopF (T := fun i : Nat => { t := [(3, .c (.ptr 0 0)), (4, ft (.bool false)), (5, spsT l), (9, intsT ids), (10, ft (.int .i64 (i : Nat)))], h := [(0, .box 56 [fl (.int .i64 r.1), fl (.int .i64 r.2)])], nx := 1, ex := [], nt := 128 })
    (Inv := fun i => i ≤ ids.length) (μ := fun i => ids.length - i) (x0 := 0) (Fits.fit [(0, 0)] [3, 4, 5, 9, 10] 1 rfl rfl Fits.rfl) (Nat.zero_le _) ?_
  clear c10 e1
  rintro i hi KL hKL
  by_cases hlt : i < ids.length
  · obtain ⟨t, hx, hm, hd⟩ := drop_at hlt
    have e1 : decide ((i : Int) < ids.length) = true := by simp; omega
    have hw := w64s i (by omega)
    have c12 := trace_c c141 c60 g62 c36 l t (trF l t) (gd.of t) (gd.srt t) (gd.ints t)
    have c18 := traceM_c c141 c60 g62 t l (trF l t) (gd.of t) (gd.srt t) (gd.ints t) gd.best
    rw [traceM_eq] at c18
    have c20 := of_c c141 l t
    rw [gd.of] at c20
    have hsz := size_all (gd.nd t) rfl
    have hcc := gd.cyc t
    have hfl := trF_len l t
    generalize hss : trF l t = ss at *
    generalize hks : srt ((lev ss 0).map (shpF ss ss.length)) = ks at *
    have hkz : (Shp.mk .empty .empty ks).size = 1 + ss.length := by
      simp only [Shp.size]
      rw [← hks, sizes_perm' (srt_perm _)]
      omega
    have c19 := all17 (.mk .empty .empty ks) (by rw [hkz]; omega)
    have c11 := all11 (.mk .empty .empty ks) (.mk .empty .empty ks)
    rw [same_refl] at c11
    rw [hkz] at c19
    have w1 : IntKind.i64.wrap (1 + (ss.length : Int)) = ((1 + ss.length : Nat) : Int) := wadd 1 _ (by omega)
    simp only [shT_mk] at c12 c18 c19 c11
    repeat' (first | ((show W _ _ _ _); first | refine W.seq fun K hK => ?_ | refine W.block ?_ | ((first | refine wR ?_ | refine wD ?_ | refine W.skip ?_ | refine W.exit ?_ | refine W.ret (Post.ret ?_)); simp only [go_sem, reduceCtorEq, List.getElem?_map, hx, iA, e1, hw, List.length_map, w1]) | refine wT ?_ | refine wF ?_ | refine wC (fun h => ?_) (fun h => ?_)) | ((show AX _ _ _ _ _); (first | refine aP ?_ | refine aF ?_ | refine aL ?_ | refine aU (hnn := by simp only [go_sem, reduceCtorEq, List.getElem?_map, hx, iA, e1, hw, List.length_map, w1]) ?_ | refine aM ?_ | refine aN ?_ | refine aR ?_ | refine aD ?_); simp only [go_sem, reduceCtorEq, List.getElem?_map, hx, iA, e1, hw, List.length_map, w1]) | refine iK ?_ | refine aI2 ?_ | (refine hK _ ?_; clear hK K) | clear hK K)
    refine hKL.to (i + 1) (by omega) (by omega) (Fits.fit [(0, 0)] [3, 4, 5, 9, 10] 1 rfl rfl ?_)
    simp only [go_sem]
    exact Fits.rfl
  obtain rfl : i = ids.length := by omega
  have e1 : decide ((ids.length : Int) < ids.length) = false := by simp
  clear hKL htm
  have c12 := trace_c c141 c60 g62 c36 l 5 [] (by rw [gd.of, h5]) List.Pairwise.nil (by simp)
  have c21 := winner_c l r
  have c11 : PCall Tryz.prog 11 [shT (.mk .empty .empty (srt ((lev [] 0).map (shpF [] 0)))), .g zShp] (ft (.bool true)) := by
    have := all11 (.mk .empty .empty []) (.mk .empty .empty [])
    rw [same_refl] at this
    exact this.conv (Al.cons .rfl (Al.cons (.g CLe.nil3) Al.nil)) .rfl
  simp only [List.length_nil] at c12
  generalize srt ((lev [] 0).map (shpF [] 0)) = k0 at c11 c12
  by_cases hr : ∃ p ∈ l, p.tr = r.1 ∧ p.id = r.2
  · obtain ⟨p, hp, hp1, hp2⟩ := hr
    have hpm : p ∈ trF l r.1 := mem_trF.2 ⟨hp, hp1⟩
    have hdep := gd.dep hpm
    have c14 := of_c1 c141 c60 g62 c36 l r (trF l r.1) (gd.of _) (gd.srt _) (gd.ints _) p hpm hp2
    rw [hp2] at hdep
    rw [if_neg hdep] at c14
    have hb : bestS l r = some p := by
      have := bestS_uni gd.uni hp
      rw [hp1, hp2] at this
      exact this
    rw [hb] at c21
    obtain ⟨s', o', ks', he⟩ : ∃ s' o' ks', shpF (trF l r.1) (trF l r.1).length r.2 = .mk s' o' ks' := by
      cases h : shpF (trF l r.1) (trF l r.1).length r.2 with
      | mk a b c => exact ⟨a, b, c, rfl⟩
    rw [he] at c14
    simp only [refA, spA, winT, List.map, Shp.av, shT_mk, zShp] at c14 c21 c12 c11
    repeat' (first | ((show W _ _ _ _); first | refine W.seq fun K hK => ?_ | refine W.block ?_ | ((first | refine wR ?_ | refine wD ?_ | refine W.skip ?_ | refine W.exit ?_ | refine W.ret (Post.ret ?_)); simp only [go_sem, reduceCtorEq, e1, List.length_map, zShp]) | refine wT ?_ | refine wF ?_ | refine wC (fun h => ?_) (fun h => ?_)) | ((show AX _ _ _ _ _); (first | refine aP ?_ | refine aF ?_ | refine aL ?_ | refine aU (hnn := by simp only [go_sem, reduceCtorEq, e1, List.length_map, zShp]) ?_ | refine aM ?_ | refine aN ?_ | refine aR ?_ | refine aD ?_); simp only [go_sem, reduceCtorEq, e1, List.length_map, zShp]) | refine iK ?_ | refine aI2 ?_ | (refine hK _ ?_; clear hK K) | clear hK K)
  · have c14 := of_c0 c141 c60 g62 l r (trF l r.1) (gd.of _) (gd.srt _) (gd.ints _) (fun h => by
      obtain ⟨p, hp, hpi⟩ := List.mem_map.1 h
      obtain ⟨h1, h2⟩ := mem_trF.1 hp
      exact hr ⟨p, h1, h2, hpi⟩)
    have hb : bestS l r = none := bestS_none fun p hp h => hr ⟨p, hp, h⟩
    rw [hb] at c21
    simp only [refA, spA, winT, zSpn, List.map, Shp.av, shT_mk, zShp] at c14 c21 c12 c11
    have g10 : ((10 : Int) == 0) = false := by decide
    repeat' (first | ((show W _ _ _ _); first | refine W.seq fun K hK => ?_ | refine W.block ?_ | ((first | refine wR ?_ | refine wD ?_ | refine W.skip ?_ | refine W.exit ?_ | refine W.ret (Post.ret ?_)); simp only [go_sem, reduceCtorEq, e1, List.length_map, zShp, g10]) | refine wT ?_ | refine wF ?_ | refine wC (fun h => ?_) (fun h => ?_)) | ((show AX _ _ _ _ _); (first | refine aP ?_ | refine aF ?_ | refine aL ?_ | refine aU (hnn := by simp only [go_sem, reduceCtorEq, e1, List.length_map, zShp, g10]) ?_ | refine aM ?_ | refine aN ?_ | refine aR ?_ | refine aD ?_); simp only [go_sem, reduceCtorEq, e1, List.length_map, zShp, g10]) | refine iK ?_ | refine aI2 ?_ | (refine hK _ ?_; clear hK K) | clear hK K)
end Go.Proofs.YtegcmciglakicaaGreat
namespace Go.Proofs.YtegcmciglakicaaGreat
open Go.ChangeShapes Go.WideShapes Go.ChangeAt Go.RowKit Go.Exe
set_option maxRecDepth 100000
theorem Tryz.own : ownKnob Tryz.prog.godebug = none := by kernel_rfl
theorem Tryz.laidOut : laidOutB Tryz.prog = true := by kernel_rfl
theorem under4 : Tryz.prog.underlying 4 = some .bool := by kernel_rfl
/-! ### stories that came in -/
theorem i8_in {f : Nat} {xs : List AV} (h : Typ Tryz.prog (f + 1) 23 xs) : ∃ n : Int, i8 n ∧ xs = [.flat (.int .i8 n)] := by
  obtain ⟨n, rfl, h1, h2⟩ := Typ.int tU23 h
  simp [IntKind.min, IntKind.max, IntKind.signed, IntKind.bits] at h1 h2
  exact ⟨n, ⟨h1, h2⟩, rfl⟩
theorem cal_in {f : Nat} {xs : List AV} (h : Typ Tryz.prog (f + 2) 193 xs) : ∃ c : Cal, c.ok ∧ xs = calA c := by
  obtain ⟨parts, rfl, hp⟩ := Typ.st (ts := [5, 5, 5, 5, 5, 5, 5, 5, 5, 5, 4]) (by kernel_rfl) h
  match parts, hp with
  | [a0, a1, a2, a3, a4, a5, a6, a7, a8, a9, a10], hp =>
    simp only [Al.cons_iff] at hp
    obtain ⟨h0, h1, h2, h3, h4, h5, h6, h7, h8, h9, h10, _⟩ := hp
    obtain ⟨n0, rfl, b0⟩ := Typ.u8 tU5 h0
    obtain ⟨n1, rfl, b1⟩ := Typ.u8 tU5 h1
    obtain ⟨n2, rfl, b2⟩ := Typ.u8 tU5 h2
    obtain ⟨n3, rfl, b3⟩ := Typ.u8 tU5 h3
    obtain ⟨n4, rfl, b4⟩ := Typ.u8 tU5 h4
    obtain ⟨n5, rfl, b5⟩ := Typ.u8 tU5 h5
    obtain ⟨n6, rfl, b6⟩ := Typ.u8 tU5 h6
    obtain ⟨n7, rfl, b7⟩ := Typ.u8 tU5 h7
    obtain ⟨n8, rfl, b8⟩ := Typ.u8 tU5 h8
    obtain ⟨n9, rfl, b9⟩ := Typ.u8 tU5 h9
    obtain ⟨b, rfl⟩ := Typ.bool tU4 h10
    exact ⟨⟨n0, n1, n2, n3, n4, n5, n6, n7, n8, n9, b⟩, ⟨b0, b1, b2, b3, b4, b5, b6, b7, b8, b9⟩, rfl⟩
theorem tre_in {f : Nat} {xs : List AV} (h : Typ Tryz.prog (f + 4) 91 xs) : ∃ t : Tre, t.okB ∧ xs = treA t := by
  obtain ⟨parts, rfl, hp⟩ := Typ.st (ts := [5, 5, 89]) (by kernel_rfl) h
  match parts, hp with
  | [a0, a1, a2], hp =>
    simp only [Al.cons_iff] at hp
    obtain ⟨h0, h1, h2, _⟩ := hp
    obtain ⟨n0, rfl, b0⟩ := Typ.u8 tU5 h0
    obtain ⟨n1, rfl, b1⟩ := Typ.u8 tU5 h1
    obtain ⟨rows, rfl, hr⟩ := Typ.sl tL89 h2
    obtain ⟨cs, hcs, rfl⟩ := rows_of (ok := Cal.ok) (enc := calA) fun r hr' => cal_in (hr r hr')
    exact ⟨⟨n0, n1, cs⟩, ⟨b0, b1, hcs⟩, rfl⟩
theorem sto_in {f : Nat} {xs : List AV} (h : Typ Tryz.prog (f + 6) 27 xs) : ∃ s : Sto, s.okB ∧ xs = stoA s := by
  obtain ⟨parts, rfl, hp⟩ := Typ.st (ts := [22, 24, 25, 5]) (by kernel_rfl) h
  match parts, hp with
  | [a0, a1, a2, a3], hp =>
    simp only [Al.cons_iff] at hp
    obtain ⟨h0, h1, h2, h3, _⟩ := hp
    obtain ⟨rows, rfl, hr⟩ := Typ.sl tL22 h0
    obtain ⟨ts, hts, rfl⟩ := rows_of (ok := Tre.okB) (enc := treA) fun r hr' => tre_in (hr r hr')
    obtain ⟨offs, rfl, hol, ho⟩ := Typ.arr (n := 4) (e := 23) (by kernel_rfl) h1
    obtain ⟨sy, rfl, hs⟩ := Typ.sl tL25 h2
    obtain ⟨w, rfl, bw⟩ := Typ.u8 tU5 h3
    match offs, hol with
    | [q1, q2, q3, q4], _ =>
      obtain ⟨o1, c1, rfl⟩ := i8_in (ho q1 (by simp))
      obtain ⟨o2, c2, rfl⟩ := i8_in (ho q2 (by simp))
      obtain ⟨o3, c3, rfl⟩ := i8_in (ho q3 (by simp))
      obtain ⟨o4, c4, rfl⟩ := i8_in (ho q4 (by simp))
      exact ⟨⟨ts, o1, o2, o3, o4, sy, w⟩, ⟨hts, c1, c2, c3, c4, bw⟩, rfl⟩
theorem ref_in {f : Nat} {xs : List AV} (h : Typ Tryz.prog (f + 2) 56 xs) : ∃ r : Rf, xs = refA r := by
  obtain ⟨parts, rfl, hp⟩ := Typ.st (ts := [3, 3]) (by kernel_rfl) h
  match parts, hp with
  | [a0, a1], hp =>
    simp only [Al.cons_iff] at hp
    obtain ⟨h0, h1, _⟩ := hp
    obtain ⟨n0, rfl, _⟩ := Typ.int tU3 h0
    obtain ⟨n1, rfl, _⟩ := Typ.int tU3 h1
    exact ⟨(n0, n1), rfl⟩
end Go.Proofs.YtegcmciglakicaaGreat
namespace Go.Proofs.YtegcmciglakicaaGreat
open Go.ChangeShapes Go.WideShapes Go.ChangeAt Go.RowKit Go.Exe
set_option maxRecDepth 100000
set_option maxHeartbeats 1600000

def buildsC : Prop := ∀ (x0 : List AV) (x1 : List AV), Typ Tryz.prog 6 27 x0 → Typ Tryz.prog 6 56 x1 → PCall Tryz.prog 5 [.g (x0.map .im), .g (x1.map .im)] (ft (.bool true))
theorem builds_lifted (hc : buildsC) (os : Os) (started : os.Started) (H : Type) (enc : TypeId × Value → H) :
    ReturnsInHanded {} Tryz.checked os 5 .any (Rows.shapeBuildsSpec.pre6 enc Tryz.prog Tryz.f5 Rows.shapeBuildsRow.domain false) (Rows.shapeBuildsSpec.post enc Tryz.prog Tryz.f5 false Rows.shapeBuildsRow.fresh Rows.shapeBuildsRow.handsOn Rows.shapeBuildsRow.again) := by
  refine returnsInHanded_of_change_sized (C := Tryz.checked) Tryz.own started (by kernel_rfl) Tryz.func5
    (ChangeSpec.witness6 (enc := enc) (C := Tryz.checked) false ⟨#[], #[.agg #[.slice none 0 0, .int .i8 0, .int .i8 0, .int .i8 0, .int .i8 0, .slice none 0 0, .int .u8 0], .agg #[.int .i64 0, .int .i64 0]], []⟩ 8 (by kernel_rfl) (by kernel_rfl) (by kernel_rfl) (by kernel_rfl)) ?_
  intro W base args ds gs before hval0 hW _ hsz0 _
  have hsz : (DataW.weightsEach Tryz.prog (Tryz.f5.params.toList ++ Rows.shapeBuildsSpec.plain.varTypes Tryz.prog) (ds ++ gs)).all (· ≤ reachBytes) = true := hsz0
  clear hsz0
  have hval : ∀ (j : Nat) t v, Tryz.f5.params[j]? = some t → args[j]? = some v → Value.okWide Tryz.prog W .any base t v := hval0
  have hW' := hW
  obtain ⟨p, q, hA0, hV, rfl, hfz, hnd⟩ := hW
  have hA : DataW.TrodAll enc Tryz.prog W 0 (fun _ => true) true Tryz.f5.params.toList args.toList ds p := hA0
  rw [Tryz.params5] at hA hval hsz
  obtain ⟨v0, v1, d0, d1, p0, p1, rfl, rfl, rfl, h0, h1⟩ := trodAll_two hA
  obtain ⟨rfl, rfl⟩ := trodVars_none hV
  clear hA0 hval0
  simp only [List.append_nil] at hW'
  obtain ⟨x0, r0, y0⟩ := arg_g (j := 0) 6 (by kernel_rfl) (by obtain ⟨cs, hcs, _⟩ := okWide_struct rfl (hval 0 27 v0 rfl rfl); exact ⟨cs, hcs⟩) h0 hsz rfl rfl
  obtain ⟨x1, r1, y1⟩ := arg_g (j := 1) 6 (by kernel_rfl) (by obtain ⟨cs, hcs, _⟩ := okWide_struct rfl (hval 1 56 v1 rfl rfl); exact ⟨cs, hcs⟩) h1 hsz rfl rfl
  have hlt : ∀ x ∈ p0 ++ p1, x.block < W.heap.size := fun x hx => by simpa using hW'.lt x hx
  have hargs : ∀ (W' : World), Below W.heap.size W W' → DataW.TrodAll enc Tryz.prog W' 0 (fun b => decide (b < W.heap.size)) true Tryz.f5.params.toList [v0, v1] [d0, d1] (p0 ++ p1) := fun W' hn => by
    have k27 : ∀ {v d ps}, DataW.Trod enc Tryz.prog W 0 (fun _ => true) true 27 v d ps → (∀ x ∈ ps, x.block < W.heap.size) → DataW.Trod enc Tryz.prog W' 0 (fun b => decide (b < W.heap.size)) true 27 v d ps :=
      fun h hl => Below.trod Tryz.laidOut (by kernel_rfl) (of_decide_eq_true (by kernel_rfl)) h hn hl
    have k56 : ∀ {v d ps}, DataW.Trod enc Tryz.prog W 0 (fun _ => true) true 56 v d ps → (∀ x ∈ ps, x.block < W.heap.size) → DataW.Trod enc Tryz.prog W' 0 (fun b => decide (b < W.heap.size)) true 56 v d ps :=
      fun h hl => Below.trod Tryz.laidOut (by kernel_rfl) (of_decide_eq_true (by kernel_rfl)) h hn hl
    rw [Tryz.params5]
    exact trodAll_mk2 (k27 h0 fun x hx => hlt x (by simp [hx])) (k56 h1 fun x hx => hlt x (by simp [hx]))
  have hcall := (hc x0 x1 y0 y1).2 (fun _ => True) W [v0, v1] (Al.cons r0 (Al.cons r1 Al.nil))
  refine hcall.mono fun e W' ⟨v, he, ⟨hB, _⟩, hr⟩ => ?_
  subst he
  obtain rfl : v = .bool true := RepA.flat_eq hr
  refine ⟨_, rfl, _, _, _, [], p0 ++ p1, [], hW', ?_, ?_, ?_, hB.frame _, fun h => by cases h⟩
  · exact trodAll_mk1 (shut_bool under4 true)
  · exact hargs W' hB
  · rfl
theorem builds_holds (hc : buildsC) : Rows.ShapeBuildsSaid :=
  OpenClaim.holds_of_wide 5 Tryz.f5 rfl rfl rfl rfl rfl rfl rfl ⟨rfl, rfl, rfl, rfl, rfl⟩ rfl rfl rfl rfl rfl (by kernel_rfl) Tryz.func5 (by kernel_rfl)
    (of_decide_eq_true (by kernel_rfl)) (by unfold Func.isWrapper; rw [if_neg (by decide +kernel)]; exact ⟨rfl, rfl⟩)
    (fun os started H enc _ => builds_lifted hc os started H enc)
end Go.Proofs.YtegcmciglakicaaGreat
namespace Go.Proofs.YtegcmciglakicaaGreat
open Go.RowKit Go.Exe
set_option maxRecDepth 100000
theorem ytegcmciglakicaagreat_shapeBuilds_holds : Rows.ShapeBuildsSaid := builds_holds fun x0 x1 h0 h1 => by
  obtain ⟨s, hs, rfl⟩ := sto_in (f := 0) h0
  obtain ⟨r, rfl⟩ := ref_in (f := 4) h1
  exact builds_c sort141_c sort60_c grow62_c sort36_c sort89_c s hs r
end Go.Proofs.YtegcmciglakicaaGreat
