/-
  CriticalTimes: at every story, every list of offsets and every event the law answers true: Check returns OK or the first error, Time the time of the event or the first error; so too with the offsets of the story.
-/
import Derived.Test.YtaaflhmfhnfjhaaGreatM10
import Derived.Test.YtaaflhmfhnfjhaaGreatM11
namespace Go.Proofs.YtaaflhmfhnfjhaaGreat
open Go.RowKit Go.Exe
set_option linter.unusedVariables false
set_option linter.unusedSimpArgs false
set_option maxHeartbeats 8000000
set_option maxRecDepth 100000
/-! ### CriticalShifts -/
attribute [local irreducible] W AX Run RunD AStep AOp AOpX AStB AStH AStG Fits PCall GCall PostG Post Stop
end Go.Proofs.YtaaflhmfhnfjhaaGreat
namespace Go.Proofs.YtaaflhmfhnfjhaaGreat
open Go.RowKit Go.Exe
set_option linter.unusedVariables false
set_option linter.unusedSimpArgs false
set_option maxHeartbeats 8000000
set_option maxRecDepth 100000
/-! ### CriticalTimes -/
theorem ordN_false {v : List Of} : ∀ {m : Nat}, ordN v m = false → ∀ n, 0 < n → n < m → leAt v n = false
  | 0, _, n, _, h => by omega
  | m + 1, h, n, h0, hn => by
    simp only [ordN, Bool.or_eq_false_iff, Bool.and_eq_false_iff] at h
    by_cases e : n = m
    · subst e
      rcases h.2 with h2 | h2
      · simp at h2; omega
      · exact h2
    · exact ordN_false h.1 n h0 (by omega)
theorem chk_ord {l : List Spn} {v : List Of} (h : chkE l v = 0) : ordN v v.length = false := by
  unfold chkE at h
  cases ho : ordN v v.length with
  | false => rfl
  | true => rw [ho] at h; simp at h
theorem chk_nd {l : List Spn} {v : List Of} (h : chkE l v = 0) : (v.map (·.1)).Nodup := by
  have ho := ordN_false (chk_ord h)
  have key : ∀ j (hj : j < v.length) i (hi : i < j), v[i].1 < v[j].1 := by
    intro j
    induction j with
    | zero => intro _ i hi; omega
    | succ j ih =>
      intro hj i hi
      have h1 := ho (j + 1) (by omega) hj
      unfold leAt at h1
      rw [List.getElem?_eq_getElem hj, show j + 1 - 1 = j by omega, List.getElem?_eq_getElem (by omega : j < v.length)] at h1
      have h2 := of_decide_eq_false h1
      by_cases e : i = j
      · subst e; omega
      · have := ih (by omega) i (by omega); omega
  rw [List.Nodup, List.pairwise_map, List.pairwise_iff_getElem]
  intro i j hi hj hij e
  have := key j hj i hij
  omega
theorem Trn.timE {l L : List Spn} {tr : Int} (h : Trn l L tr) {v : List Of} (hc : chkE l v = 0) (x : Ev) : timE l v x = if x.tr = tr then (if atI l x.id < 0 then none else some (timM l v x)) else none := by
  unfold Go.Proofs.YtaaflhmfhnfjhaaGreat.timE spOfR
  by_cases e : x.tr = tr
  · rw [if_pos e]
    have e1 : l.find? (fun s => s.tr == x.tr && s.id == x.id) = l.find? (fun s => s.id == x.id) := by
      have : ∀ m : List Spn, (∀ s ∈ m, s.tr = tr) → m.find? (fun s => s.tr == x.tr && s.id == x.id) = m.find? (fun s => s.id == x.id) := by
        intro m
        induction m with
        | nil => intro _; rfl
        | cons y m ih =>
          intro hm
          have h1 : (y.tr == x.tr) = true := by rw [beq_iff_eq, e]; exact hm y (by simp)
          rw [List.find?_cons, List.find?_cons, h1, Bool.true_and, ih fun s hs => hm s (by simp [hs])]
      exact this l h.trl
    simp only
    rw [e1]
    cases hf : l.findIdx? (fun s => s.id == x.id) with
    | none =>
      have h1 : l.find? (fun s => s.id == x.id) = none := by
        rw [List.find?_eq_none]
        rw [List.findIdx?_eq_none_iff] at hf
        exact fun y hy => by simpa using hf y hy
      have h2 : atI l x.id = -1 := by simp [atI, hf]
      rw [h1, h2, if_pos (by omega)]; rfl
    | some i =>
      obtain ⟨h4, h5, _⟩ := List.findIdx?_eq_some_iff_getElem.1 hf
      have hk := List.getElem?_eq_getElem h4
      have h2 : atI l x.id = (i : Nat) := by simp [atI, hf]
      have h3 : timM l v x = IntKind.i64.wrap (atS l[i] x.en - offI v l[i].clk) := by simp only [timM, hf, hk]
      rw [h2, if_neg (by omega), h3]
      cases hs : l.find? (fun s => s.id == x.id) with
      | none =>
        rw [List.find?_eq_none] at hs
        exact absurd h5 (hs _ (List.getElem_mem h4))
      | some s =>
        have h6 := List.find?_some hs
        have h7 := List.mem_of_find?_eq_some hs
        have he := id_eq h.ndl h7 (List.getElem_mem h4) (by
          have a1 : s.id = x.id := by simpa using h6
          have a2 : l[i].id = x.id := by simpa using h5
          rw [a1, a2])
        rw [he, Option.map_some, off_eq (chk_nd hc)]
  · rw [if_neg e]
    have : l.find? (fun s => s.tr == x.tr && s.id == x.id) = none := by
      rw [List.find?_eq_none]
      intro s hs
      have := h.trl s hs
      have : ¬ s.tr = x.tr := fun e2 => e (by rw [← e2, this])
      simp [this]
    simp only
    rw [this]; rfl
theorem time23_nil (L : List Spn) (v : List Of) (x : Ev) : GCall Tryz.prog 23 1 (St.g [.c (.ptr 0 0), evT x] [(0, .box 58 [.im (.sl 36 (L.map spA)), .im (.sl 80 (v.map ofA)), fl (.slice none 0 0), fl (.int .i64 0)])] 1) (St.r (ft (.int .i64 (timM L v x))) [(0, clO L v [] 0)] 1) := by
  refine (time23_c L v [] 0 x).fits ?_
  rintro ⟨P, w0, ok0, may, np, pblk⟩ rfl rfl
  simp only [St.g, evT, evA, List.map]
  refine Fits.adoptB 0 58 _ 2 1 193 rfl rfl rfl rfl tE193 rfl ?_
  simp only [go_sem, List.set_cons_zero, List.set_cons_succ]
  refine Fits.toNB 0 rfl ?_
  simp only [go_sem]
  refine Fits.fold 0 0 2 1 (.orow 193 []) rfl rfl rfl (by simp [Obj.slot, refCell]) (by decide) ?_
  simp only [go_sem]
  refine Fits.fit [(0, 0)] [0, 1] 1 rfl rfl ?_
  simp only [go_sem, evA, List.map, List.map_nil]
  exact Fits.rfl
def wkV (v own : List Of) (k : Nat) : List Of := if k = 0 then v else own
attribute [local irreducible] W AX Run RunD AStep AOp AOpX AStB AStH AStG Fits PCall GCall PostG Post Stop
theorem times_law (c53 : SortC Tryz.prog 53 14) (c71 : SortI Tryz.prog 71) (g85 : GrowC Tryz.prog 85 3 1 8) (s : Sto) (hsB : s.okB) (v : List Of) (hv : ∀ y ∈ v, I64 y.1) (x : Ev) :
    PCall Tryz.prog 5 [stoT s, ofsT v, evT x] (ft (.bool true)) := by
  have c11 := known_c c53 c71 g85
  simp only [evT, evA, List.map]
  by_cases hv6 : 6 < v.length
  · have q1 : decide ((v.length : Int) > 6) = true := by simp; omega
    simp only [stoT, stoA, List.map]
    refine PCall.intro (nt := 105) (rs := [.tmp 6]) Tryz.func5 rfl ⟨by kernel_rfl, by kernel_rfl, by kernel_rfl⟩ (by simp) ?_
    rintro ⟨P, w0, ok0, may, np, pblk⟩ rfl rfl
    repeat' (first | ((show W _ _ _ _); first | refine W.seq fun K hK => ?_ | refine W.block ?_ | ((first | refine wR ?_ | refine wD ?_ | refine W.skip ?_ | refine W.exit ?_ | refine W.ret (Post.ret ?_)); simp only [go_sem, reduceCtorEq, q1, List.length_map]) | refine wT ?_ | refine wF ?_ | refine wC (fun h => ?_) (fun h => ?_)) | ((show AX _ _ _ _ _); (first | refine aP ?_ | refine aF ?_); simp only [go_sem, reduceCtorEq, q1, List.length_map]) | refine iK ?_ | refine aI2 ?_ | (refine hK _ ?_; clear hK K) | clear hK K)
  have q1 : decide ((v.length : Int) > 6) = false := by simp; omega
  rcases turned_is s hsB 0 (by omega) with c12 | ⟨l, L, tr, hT, hc, hl0, c12⟩
  · clear c53 c71 g85 hsB
    simp only [stoT, stoA, turnR, List.map, Option.map_none, Option.getD_none, Option.isSome_none] at c12 ⊢
    refine PCall.intro (nt := 105) (rs := [.tmp 6]) Tryz.func5 rfl ⟨by kernel_rfl, by kernel_rfl, by kernel_rfl⟩ (by simp) ?_
    rintro ⟨P, w0, ok0, may, np, pblk⟩ rfl rfl
    repeat' (first | ((show W _ _ _ _); first | refine W.seq fun K hK => ?_ | refine W.block ?_ | ((first | refine wR ?_ | refine wD ?_ | refine W.skip ?_ | refine W.exit ?_ | refine W.ret (Post.ret ?_)); simp only [go_sem, reduceCtorEq, q1, List.length_map]) | refine wT ?_ | refine wF ?_ | refine wC (fun h => ?_) (fun h => ?_)) | ((show AX _ _ _ _ _); (first | refine aP ?_ | refine aF ?_); simp only [go_sem, reduceCtorEq, q1, List.length_map]) | refine iK ?_ | refine aI2 ?_ | (refine hK _ ?_; clear hK K) | clear hK K)
  · have hclk : ∀ s ∈ l, I64 s.clk := fun s hs => (hT.intl s hs).2.2.2
    have hownI := offT_I s
    generalize offT s 4 = own at *
    have cv := check_c l v hclk hv
    have co := check_c l own hclk hownI
    have dv := check21_c l v
    rw [hc] at co
    have h00 : (chkE l v != chkE l v) = false := by simp
    have hwI : ∀ k, ∀ y ∈ wkV v own k, I64 y.1 := fun k => by unfold wkV; split <;> assumption
    have c22 := fun k => time_c l (wkV v own k) x hclk (hwI k)
    have c21 := fun k => check21_c l (wkV v own k)
    have c18 := at18_c l x.id
    have c23 := fun k => time23_nil l (wkV v own k) x
    have hE := fun k (h : chkE l (wkV v own k) = 0) => hT.timE h x
    obtain ⟨s0, hx0, hm0, _⟩ := drop_at hl0
    have htr0 := hT.trl s0 hm0
    have hlt0 : decide (0 < l.length) = true := by simp [hl0]
    have hll := hT.lenl
    clear c53 c71 g85 hsB hwI hclk hownI hT hv
    simp only [stoT, stoA, turnR, List.map, Option.map_some, Option.getD_some, Option.isSome_some] at c12 ⊢
    refine PCall.intro (nt := 105) (rs := [.tmp 6]) Tryz.func5 rfl ⟨by kernel_rfl, by kernel_rfl, by kernel_rfl⟩ (by simp) ?_
    rintro ⟨P, w0, ok0, may, np, pblk⟩ rfl rfl
    repeat' (first | ((show W _ _ _ _); first | refine W.seq fun K hK => ?_ | refine W.block ?_ | ((first | refine wR ?_ | refine wD ?_ | refine W.skip ?_ | refine W.exit ?_ | refine W.ret (Post.ret ?_)); simp only [go_sem, reduceCtorEq, q1, List.length_map, h00]) | refine wT ?_ | refine wF ?_ | refine wC (fun h => ?_) (fun h => ?_)) | ((show AX _ _ _ _ _); (first | refine aP ?_ | refine aF ?_); simp only [go_sem, reduceCtorEq, q1, List.length_map, h00]) | refine iK ?_ | refine aI2 ?_ | (refine hK _ ?_; clear hK K) | clear hK K)
    clear c11 c12 cv co dv h00
    refine W.loopF (T := fun i : Nat => { t := [(1, ofsT (wkV v own (i - 1))), (5, .c (.ptr 0 0)), (7, spsT l), (8, ofsT own), (10, ft (.int .i64 (i : Nat)))], h := [(0, .box 52 ((evA x).map .im))], nx := 1, ex := [], nt := 105 })
      (Inv := fun i => i ≤ 2) (μ := fun i => 2 - i) (x0 := 0) ?_ (Nat.zero_le _) ?_
    · refine Fits.fit [(1, 0)] [1, 5, 7, 8, 10] 1 rfl rfl ?_
      simp only [go_sem, evA, List.map]
      exact Fits.rfl
    rintro i hi KL hKL
    by_cases h2 : i < 2
    · have e1 : decide ((i : Int) < 2) = true := by simp; omega
      have hw := w64s i (by omega)
      have c22 := c22 i
      have c21 := c21 i
      have c23 := c23 i
      have hE := hE i
      repeat' (first | ((show W _ _ _ _); first | refine W.stop (id := 11) ?_ | refine W.seq fun K hK => ?_ | refine W.block ?_ | ((first | refine wR ?_ | refine wD ?_ | refine W.skip ?_ | refine W.exit ?_ | refine W.ret (Post.ret ?_)); simp only [go_sem, reduceCtorEq, e1]) | refine wT ?_ | refine wF ?_ | refine wC (fun h => ?_) (fun h => ?_)) | ((show AX _ _ _ _ _); (first | refine aP ?_ | refine aF ?_); simp only [go_sem, reduceCtorEq, e1]) | refine iK ?_ | refine aI2 ?_ | (refine hK _ ?_; clear hK K) | clear hK K)
      refine Stop.out ?_
      rename_i K13 hK13o
      have hK13 : ∀ s1, Fits { P := Tryz.prog, w0 := w0, ok0 := ok0, may := may, np := 0, pblk := pblk } s1 { t := [(1, ofsT (wkV v own i)), (5, .c (.ptr 0 0)), (7, spsT l), (8, ofsT own), (10, ft (.int .i64 (i : Nat)))], h := [(0, .box 52 ((evA x).map .im))], nx := 1, ex := [], nt := 105 } → K13 s1 := by
        intro s1 hf
        refine hK13o _ (W.fits hf ?_)
        clear hf hK K hK13o
        have hnx : wkV v own (i + 1 - 1) = wkV v own i := by rw [Nat.add_sub_cancel]
        generalize wkV v own i = w at *
        simp only [evT, evA, List.map] at c22 c23
        simp only [evA, List.map]
        by_cases hE0 : chkE l w = 0
        · have hE := hE hE0
          rw [hE0] at c21
          have f1 : ((0 : Int) == 0) = true := by decide
          have f2 : ((10 : Int) != 10) = false := by decide
          have f3 : ((10 : Int) == 0) = false := by decide
          have f4 : ((10 : Int) != 0) = true := by decide
          have f5 : ((0 : Int) != 0) = false := by decide
          by_cases hat : atI l x.id < 0
          · rw [if_pos hat, ite_self] at hE
            have c22' : PCall Tryz.prog 22 [spsT l, ofsT w, .g [fl (.int .i64 x.tr), fl (.int .i64 x.id), fl (.bool x.en)]] (.t [(false, [fl (.int .i64 0)]), (false, [fl (.int .i64 10)])]) := by
              unfold timT at c22
              rw [if_neg (by rw [hE0]; simp), hE] at c22
              exact c22
            clear c22 hE
            have f6 : decide (atI l x.id < 0) = true := by simp [hat]
            repeat' (first | ((show W _ _ _ _); first | refine W.seq fun K hK => ?_ | refine W.block ?_ | ((first | refine wR ?_ | refine wD ?_ | refine W.skip ?_ | refine W.exit ?_ | refine W.ret (Post.ret ?_)); simp only [go_sem, reduceCtorEq, f1, f2, f3, f4, f5, f6, hw]) | refine wT ?_ | refine wF ?_ | refine wC (fun h => ?_) (fun h => ?_)) | ((show AX _ _ _ _ _); (first | refine aP ?_ | refine aF ?_); simp only [go_sem, reduceCtorEq, f1, f2, f3, f4, f5, f6, hw]) | refine iK ?_ | refine aI2 ?_ | (refine hK _ ?_; clear hK K) | clear hK K)
            refine hKL.to (i + 1) (by omega) (by omega) (Fits.fit [(0, 0)] [1, 5, 7, 8, 10] 1 rfl rfl ?_)
            simp only [go_sem, evA, List.map, hnx]
            exact Fits.rfl
          · have f6 : decide (atI l x.id < 0) = false := by simp; omega
            rw [if_neg hat] at hE
            by_cases htr : x.tr = tr
            · have f7 : (x.tr != s0.tr) = false := by rw [htr, htr0]; simp
              rw [if_pos htr] at hE
              have c22' : PCall Tryz.prog 22 [spsT l, ofsT w, .g [fl (.int .i64 x.tr), fl (.int .i64 x.id), fl (.bool x.en)]] (.t [(false, [fl (.int .i64 (timM l w x))]), (false, [fl (.int .i64 0)])]) := by
                unfold timT at c22
                rw [if_neg (by rw [hE0]; simp), hE] at c22
                exact c22
              clear c22 hE
              generalize timM l w x = n at *
              have f8 : (n != n) = false := by simp
              repeat' (first | ((show W _ _ _ _); first | refine W.seq fun K hK => ?_ | refine W.block ?_ | ((first | refine wR ?_ | refine wD ?_ | refine W.skip ?_ | refine W.exit ?_ | refine W.ret (Post.ret ?_)); simp only [go_sem, reduceCtorEq, f1, f2, f3, f4, f5, f6, f7, f8, hw, List.getElem?_map, hx0, hlt0, spA, List.length_map]) | refine wT ?_ | refine wF ?_ | refine wC (fun h => ?_) (fun h => ?_)) | ((show AX _ _ _ _ _); (first | refine aP ?_ | refine aF ?_); simp only [go_sem, reduceCtorEq, f1, f2, f3, f4, f5, f6, f7, f8, hw, List.getElem?_map, hx0, hlt0, spA, List.length_map]) | refine iK ?_ | refine aI2 ?_ | (refine hK _ ?_; clear hK K) | clear hK K)
              refine AX.gcall [13] rfl rfl (c23) (by simp only [go_sem, reduceCtorEq]) (by simp only [go_sem, reduceCtorEq]) rfl rfl (by simp only [go_sem, Obj.owns]) rfl (by simp only [go_sem, Obj.owns]) rfl rfl ?_
              simp only [go_sem, reduceCtorEq]
              repeat' (first | ((show W _ _ _ _); first | refine W.seq fun K hK => ?_ | refine W.block ?_ | ((first | refine wR ?_ | refine wD ?_ | refine W.skip ?_ | refine W.exit ?_ | refine W.ret (Post.ret ?_)); simp only [go_sem, reduceCtorEq, f1, f2, f3, f4, f5, f6, f7, f8, hw, List.getElem?_map, hx0, hlt0, spA, List.length_map]) | refine wT ?_ | refine wF ?_ | refine wC (fun h => ?_) (fun h => ?_)) | ((show AX _ _ _ _ _); (first | refine aP ?_ | refine aF ?_); simp only [go_sem, reduceCtorEq, f1, f2, f3, f4, f5, f6, f7, f8, hw, List.getElem?_map, hx0, hlt0, spA, List.length_map]) | refine iK ?_ | refine aI2 ?_ | (refine hK _ ?_; clear hK K) | clear hK K)
              refine hKL.to (i + 1) (by omega) (by omega) (Fits.fit [(0, 0)] [1, 5, 7, 8, 10] 1 rfl rfl ?_)
              simp only [go_sem, evA, List.map, hnx]
              exact Fits.rfl
            · have f7 : (x.tr != s0.tr) = true := by rw [htr0]; simp [htr]
              rw [if_neg htr] at hE
              have c22' : PCall Tryz.prog 22 [spsT l, ofsT w, .g [fl (.int .i64 x.tr), fl (.int .i64 x.id), fl (.bool x.en)]] (.t [(false, [fl (.int .i64 0)]), (false, [fl (.int .i64 10)])]) := by
                unfold timT at c22
                rw [if_neg (by rw [hE0]; simp), hE] at c22
                exact c22
              clear c22 hE
              repeat' (first | ((show W _ _ _ _); first | refine W.seq fun K hK => ?_ | refine W.block ?_ | ((first | refine wR ?_ | refine wD ?_ | refine W.skip ?_ | refine W.exit ?_ | refine W.ret (Post.ret ?_)); simp only [go_sem, reduceCtorEq, f1, f2, f3, f4, f5, f6, f7, hw, List.getElem?_map, hx0, hlt0, spA, List.length_map]) | refine wT ?_ | refine wF ?_ | refine wC (fun h => ?_) (fun h => ?_)) | ((show AX _ _ _ _ _); (first | refine aP ?_ | refine aF ?_); simp only [go_sem, reduceCtorEq, f1, f2, f3, f4, f5, f6, f7, hw, List.getElem?_map, hx0, hlt0, spA, List.length_map]) | refine iK ?_ | refine aI2 ?_ | (refine hK _ ?_; clear hK K) | clear hK K)
              refine hKL.to (i + 1) (by omega) (by omega) (Fits.fit [(0, 0)] [1, 5, 7, 8, 10] 1 rfl rfl ?_)
              simp only [go_sem, evA, List.map, hnx]
              exact Fits.rfl
        · have c22' : PCall Tryz.prog 22 [spsT l, ofsT w, .g [fl (.int .i64 x.tr), fl (.int .i64 x.id), fl (.bool x.en)]] (.t [(false, [fl (.int .i64 0)]), (false, [fl (.int .i64 (chkE l w))])]) := by
            unfold timT at c22
            rw [if_pos hE0] at c22
            exact c22
          have f1 : (chkE l w == 0) = false := by rw [beq_eq_false_iff_ne]; exact hE0
          have f2 : (chkE l w != chkE l w) = false := by simp
          have f3 : (chkE l w != 0) = true := by simp [hE0]
          have f4 : ((0 : Int) != 0) = false := by decide
          clear c22 hE
          repeat' (first | ((show W _ _ _ _); first | refine W.seq fun K hK => ?_ | refine W.block ?_ | ((first | refine wR ?_ | refine wD ?_ | refine W.skip ?_ | refine W.exit ?_ | refine W.ret (Post.ret ?_)); simp only [go_sem, reduceCtorEq, f1, f2, f3, f4, hw]) | refine wT ?_ | refine wF ?_ | refine wC (fun h => ?_) (fun h => ?_)) | ((show AX _ _ _ _ _); (first | refine aP ?_ | refine aF ?_); simp only [go_sem, reduceCtorEq, f1, f2, f3, f4, hw]) | refine iK ?_ | refine aI2 ?_ | (refine hK _ ?_; clear hK K) | clear hK K)
          refine hKL.to (i + 1) (by omega) (by omega) (Fits.fit [(0, 0)] [1, 5, 7, 8, 10] 1 rfl rfl ?_)
          simp only [go_sem, evA, List.map, hnx]
          exact Fits.rfl
      clear hK13o hKL
      rcases (by omega : i = 0 ∨ i = 1) with rfl | rfl
      · have e2 : (((0 : Nat) : Int) == 1) = false := by decide
        repeat' (first | ((show W _ _ _ _); first | refine W.seq fun K hK => ?_ | refine W.block ?_ | ((first | refine wR ?_ | refine wD ?_ | refine W.skip ?_ | refine W.exit ?_ | refine W.ret (Post.ret ?_)); simp only [go_sem, reduceCtorEq, e2]) | refine wT ?_ | refine wF ?_ | refine wC (fun h => ?_) (fun h => ?_)) | ((show AX _ _ _ _ _); (first | refine aP ?_ | refine aF ?_); simp only [go_sem, reduceCtorEq, e2]) | refine iK ?_ | refine aI2 ?_ | (refine hK _ ?_; clear hK K) | clear hK K)
        refine hK13 _ (Fits.fit [(0, 0)] [1, 5, 7, 8, 10] 1 rfl rfl ?_)
        simp only [go_sem]
        exact Fits.rfl
      · have e2 : (((1 : Nat) : Int) == 1) = true := by decide
        repeat' (first | ((show W _ _ _ _); first | refine W.seq fun K hK => ?_ | refine W.block ?_ | ((first | refine wR ?_ | refine wD ?_ | refine W.skip ?_ | refine W.exit ?_ | refine W.ret (Post.ret ?_)); simp only [go_sem, reduceCtorEq, e2]) | refine wT ?_ | refine wF ?_ | refine wC (fun h => ?_) (fun h => ?_)) | ((show AX _ _ _ _ _); (first | refine aP ?_ | refine aF ?_); simp only [go_sem, reduceCtorEq, e2]) | refine iK ?_ | refine aI2 ?_ | (refine hK _ ?_; clear hK K) | clear hK K)
        refine hK13 _ (Fits.fit [(0, 0)] [1, 5, 7, 8, 10] 1 rfl rfl ?_)
        simp only [go_sem]
        exact Fits.rfl
    · obtain rfl : i = 2 := by omega
      have e1 : decide (((2 : Nat) : Int) < 2) = false := by decide
      clear hKL
      repeat' (first | ((show W _ _ _ _); first | refine W.seq fun K hK => ?_ | refine W.block ?_ | ((first | refine wR ?_ | refine wD ?_ | refine W.skip ?_ | refine W.exit ?_ | refine W.ret (Post.ret ?_)); simp only [go_sem, reduceCtorEq, e1]) | refine wT ?_ | refine wF ?_ | refine wC (fun h => ?_) (fun h => ?_)) | ((show AX _ _ _ _ _); (first | refine aP ?_ | refine aF ?_); simp only [go_sem, reduceCtorEq, e1]) | refine iK ?_ | refine aI2 ?_ | (refine hK _ ?_; clear hK K) | clear hK K)
end Go.Proofs.YtaaflhmfhnfjhaaGreat
namespace Go.Proofs.YtaaflhmfhnfjhaaGreat
open Go.ChangeShapes Go.WideShapes Go.ChangeAt Go.RowKit Go.Exe
set_option maxRecDepth 100000
set_option maxHeartbeats 1600000

def timesC : Prop := ∀ (x0 : List AV) (x1 : AV) (x2 : List AV), Typ Tryz.prog 6 27 x0 → Typ Tryz.prog 6 30 [x1] → Typ Tryz.prog 6 52 x2 → PCall Tryz.prog 5 [.g (x0.map .im), .c (.im x1), .g (x2.map .im)] (ft (.bool true))
theorem times_lifted (hc : timesC) (os : Os) (started : os.Started) (H : Type) (enc : TypeId × Value → H) :
    ReturnsInHanded {} Tryz.checked os 5 .any (Rows.criticalTimesSpec.pre6 enc Tryz.prog Tryz.f5 Rows.criticalTimesRow.domain false) (Rows.criticalTimesSpec.post enc Tryz.prog Tryz.f5 false Rows.criticalTimesRow.fresh Rows.criticalTimesRow.handsOn Rows.criticalTimesRow.again) := by
  refine returnsInHanded_of_change_sized (C := Tryz.checked) Tryz.own started (by kernel_rfl) Tryz.func5
    (ChangeSpec.witness6 (enc := enc) (C := Tryz.checked) false ⟨#[], #[.agg #[.slice none 0 0, .int .i8 0, .int .i8 0, .int .i8 0, .int .i8 0, .slice none 0 0, .int .u8 0], .slice none 0 0, .agg #[.int .i64 0, .int .i64 0, .bool false]], []⟩ 8 (by kernel_rfl) (by kernel_rfl) (by kernel_rfl) (by kernel_rfl)) ?_
  intro W base args ds gs before hval0 hW _ hsz0 _
  have hsz : (DataW.weightsEach Tryz.prog (Tryz.f5.params.toList ++ Rows.criticalTimesSpec.plain.varTypes Tryz.prog) (ds ++ gs)).all (· ≤ reachBytes) = true := hsz0
  clear hsz0
  have hval : ∀ (j : Nat) t v, Tryz.f5.params[j]? = some t → args[j]? = some v → Value.okWide Tryz.prog W .any base t v := hval0
  have hW' := hW
  obtain ⟨p, q, hA0, hV, rfl, hfz, hnd⟩ := hW
  have hA : DataW.TrodAll enc Tryz.prog W 0 (fun _ => true) true Tryz.f5.params.toList args.toList ds p := hA0
  rw [Tryz.params5] at hA hval hsz
  obtain ⟨v0, v1, v2, d0, d1, d2, p0, p1, p2, rfl, rfl, rfl, h0, h1, h2⟩ := trodAll_three hA
  obtain ⟨rfl, rfl⟩ := trodVars_none hV
  clear hA0 hval0
  simp only [List.append_nil] at hW'
  obtain ⟨x0, r0, y0⟩ := arg_g (j := 0) 6 (by kernel_rfl) (by obtain ⟨cs, hcs, _⟩ := okWide_struct rfl (hval 0 27 v0 rfl rfl); exact ⟨cs, hcs⟩) h0 hsz rfl rfl
  obtain ⟨x1, r1, y1⟩ := arg_c (j := 1) 6 (by kernel_rfl) (by obtain ⟨z1, z2, z3, hz⟩ := okWide_slice rfl (hval 1 30 v1 rfl rfl); rw [hz]; rfl) h1 hsz rfl rfl
  obtain ⟨x2, r2, y2⟩ := arg_g (j := 2) 6 (by kernel_rfl) (by obtain ⟨cs, hcs, _⟩ := okWide_struct rfl (hval 2 52 v2 rfl rfl); exact ⟨cs, hcs⟩) h2 hsz rfl rfl
  have hlt : ∀ x ∈ p0 ++ p1 ++ p2, x.block < W.heap.size := fun x hx => by simpa using hW'.lt x hx
  have hargs : ∀ (W' : World), Below W.heap.size W W' → DataW.TrodAll enc Tryz.prog W' 0 (fun b => decide (b < W.heap.size)) true Tryz.f5.params.toList [v0, v1, v2] [d0, d1, d2] (p0 ++ p1 ++ p2) := fun W' hn => by
    have k27 : ∀ {v d ps}, DataW.Trod enc Tryz.prog W 0 (fun _ => true) true 27 v d ps → (∀ x ∈ ps, x.block < W.heap.size) → DataW.Trod enc Tryz.prog W' 0 (fun b => decide (b < W.heap.size)) true 27 v d ps :=
      fun h hl => Below.trod Tryz.laidOut (by kernel_rfl) (of_decide_eq_true (by kernel_rfl)) h hn hl
    have k30 : ∀ {v d ps}, DataW.Trod enc Tryz.prog W 0 (fun _ => true) true 30 v d ps → (∀ x ∈ ps, x.block < W.heap.size) → DataW.Trod enc Tryz.prog W' 0 (fun b => decide (b < W.heap.size)) true 30 v d ps :=
      fun h hl => Below.trod Tryz.laidOut (by kernel_rfl) (of_decide_eq_true (by kernel_rfl)) h hn hl
    have k52 : ∀ {v d ps}, DataW.Trod enc Tryz.prog W 0 (fun _ => true) true 52 v d ps → (∀ x ∈ ps, x.block < W.heap.size) → DataW.Trod enc Tryz.prog W' 0 (fun b => decide (b < W.heap.size)) true 52 v d ps :=
      fun h hl => Below.trod Tryz.laidOut (by kernel_rfl) (of_decide_eq_true (by kernel_rfl)) h hn hl
    rw [Tryz.params5, List.append_assoc]
    exact trodAll_mk3 (k27 h0 fun x hx => hlt x (by simp [hx])) (k30 h1 fun x hx => hlt x (by simp [hx])) (k52 h2 fun x hx => hlt x (by simp [hx]))
  have hcall := (hc x0 x1 x2 y0 y1 y2).2 (fun _ => True) W [v0, v1, v2] (Al.cons r0 (Al.cons r1 (Al.cons r2 Al.nil)))
  refine hcall.mono fun e W' ⟨v, he, ⟨hB, _⟩, hr⟩ => ?_
  subst he
  obtain rfl : v = .bool true := RepA.flat_eq hr
  refine ⟨_, rfl, _, _, _, [], p0 ++ p1 ++ p2, [], hW', ?_, ?_, ?_, hB.frame _, fun h => by cases h⟩
  · exact trodAll_mk1 (shut_bool under4 true)
  · exact hargs W' hB
  · rfl
theorem times_holds (hc : timesC) : Rows.CriticalTimesSaid :=
  OpenClaim.holds_of_wide 5 Tryz.f5 rfl rfl rfl rfl rfl rfl rfl ⟨rfl, rfl, rfl, rfl, rfl⟩ rfl rfl rfl rfl rfl (by kernel_rfl) Tryz.func5 (by kernel_rfl)
    (of_decide_eq_true (by kernel_rfl)) (by unfold Func.isWrapper; rw [if_neg (by decide +kernel)]; exact ⟨rfl, rfl⟩)
    (fun os started H enc _ => times_lifted hc os started H enc)
end Go.Proofs.YtaaflhmfhnfjhaaGreat
namespace Go.Proofs.YtaaflhmfhnfjhaaGreat
open Go.RowKit Go.Exe
set_option maxRecDepth 100000
theorem i64_in {f : Nat} {xs : List AV} (h : Typ Tryz.prog (f + 1) 3 xs) : ∃ n : Int, I64 n ∧ xs = [.flat (.int .i64 n)] := by
  obtain ⟨n, rfl, h1, h2⟩ := Typ.int tU3 h
  simp [IntKind.min, IntKind.max, IntKind.signed, IntKind.bits] at h1 h2
  exact ⟨n, ⟨h1, h2⟩, rfl⟩
theorem of_in {f : Nat} {xs : List AV} (h : Typ Tryz.prog (f + 2) 80 xs) : ∃ x : Of, I64 x.1 ∧ xs = ofA x := by
  obtain ⟨parts, rfl, hp⟩ := Typ.st (ts := [3, 3]) (by kernel_rfl) h
  match parts, hp with
  | [a0, a1], hp =>
    simp only [Al.cons_iff] at hp
    obtain ⟨h0, h1, _⟩ := hp
    obtain ⟨n0, i0, rfl⟩ := i64_in h0
    obtain ⟨n1, _, rfl⟩ := i64_in h1
    exact ⟨(n0, n1), i0, rfl⟩
theorem ofs_in {f : Nat} {x : AV} (h : Typ Tryz.prog (f + 3) 30 [x]) : ∃ v : List Of, (∀ y ∈ v, I64 y.1) ∧ x = .sl 80 (v.map ofA) := by
  obtain ⟨rows, hx, hr⟩ := Typ.sl tL30 h
  obtain ⟨v, hv, rfl⟩ := rows_of (ok := fun y : Of => I64 y.1) (enc := ofA) fun r hr' => of_in (hr r hr')
  cases hx
  exact ⟨v, hv, rfl⟩
theorem ev_in {f : Nat} {xs : List AV} (h : Typ Tryz.prog (f + 3) 52 xs) : ∃ x : Ev, okE x ∧ xs = evA x := by
  obtain ⟨parts, rfl, hp⟩ := Typ.st (ts := [50, 4]) (by kernel_rfl) h
  match parts, hp with
  | [a0, a1], hp =>
    simp only [Al.cons_iff] at hp
    obtain ⟨h0, h1, _⟩ := hp
    obtain ⟨b, rfl⟩ := Typ.bool tU4 h1
    obtain ⟨parts, rfl, hq⟩ := Typ.st (ts := [3, 3]) (by kernel_rfl) h0
    match parts, hq with
    | [b0, b1], hq =>
      simp only [Al.cons_iff] at hq
      obtain ⟨k0, k1, _⟩ := hq
      obtain ⟨n0, i0, rfl⟩ := i64_in k0
      obtain ⟨n1, i1, rfl⟩ := i64_in k1
      exact ⟨⟨n0, n1, b⟩, ⟨i0, i1⟩, rfl⟩
theorem ytaaflhmfhnfjhaagreat_criticalTimes_holds : Rows.CriticalTimesSaid := times_holds fun x0 x1 x2 h0 h1 h2 => by
  obtain ⟨s, hs, rfl⟩ := sto_in (f := 0) h0
  obtain ⟨v, hv, rfl⟩ := ofs_in (f := 3) h1
  obtain ⟨x, _, rfl⟩ := ev_in (f := 3) h2
  exact times_law sort53_c sort71_c grow85_c s hs v hv x
end Go.Proofs.YtaaflhmfhnfjhaaGreat
