/-
  CriticalLengths: at every story and every list of segments the law answers true: Lengths returns the differences of the times, or the first error.
-/
import Derived.Test.YtaaflhmfhnfjhaaGreatM10
import Derived.Test.YtaaflhmfhnfjhaaGreatM11
namespace Go.Proofs.YtaaflhmfhnfjhaaGreat
open Go.RowKit Go.Exe
set_option linter.unusedVariables false
set_option linter.unusedSimpArgs false
set_option maxHeartbeats 8000000
set_option maxRecDepth 100000
/-! ### CriticalShifts -/
attribute [local irreducible] W AX Run RunD AStep AOp AOpX AStB AStH AStG Fits PCall GCall PostG Post Stop
end Go.Proofs.YtaaflhmfhnfjhaaGreat
namespace Go.Proofs.YtaaflhmfhnfjhaaGreat
open Go.RowKit Go.Exe
set_option linter.unusedVariables false
set_option linter.unusedSimpArgs false
set_option maxHeartbeats 8000000
set_option maxRecDepth 100000
/-! ### CriticalTimes -/
theorem ordN_false {v : List Of} : ∀ {m : Nat}, ordN v m = false → ∀ n, 0 < n → n < m → leAt v n = false
  | 0, _, n, _, h => by omega
  | m + 1, h, n, h0, hn => by
    simp only [ordN, Bool.or_eq_false_iff, Bool.and_eq_false_iff] at h
    by_cases e : n = m
    · subst e
      rcases h.2 with h2 | h2
      · simp at h2; omega
      · exact h2
    · exact ordN_false h.1 n h0 (by omega)
theorem chk_ord {l : List Spn} {v : List Of} (h : chkE l v = 0) : ordN v v.length = false := by
  unfold chkE at h
  cases ho : ordN v v.length with
  | false => rfl
  | true => rw [ho] at h; simp at h
theorem chk_nd {l : List Spn} {v : List Of} (h : chkE l v = 0) : (v.map (·.1)).Nodup := by
  have ho := ordN_false (chk_ord h)
  have key : ∀ j (hj : j < v.length) i (hi : i < j), v[i].1 < v[j].1 := by
    intro j
    induction j with
    | zero => intro _ i hi; omega
    | succ j ih =>
      intro hj i hi
      have h1 := ho (j + 1) (by omega) hj
      unfold leAt at h1
      rw [List.getElem?_eq_getElem hj, show j + 1 - 1 = j by omega, List.getElem?_eq_getElem (by omega : j < v.length)] at h1
      have h2 := of_decide_eq_false h1
      by_cases e : i = j
      · subst e; omega
      · have := ih (by omega) i (by omega); omega
  rw [List.Nodup, List.pairwise_map, List.pairwise_iff_getElem]
  intro i j hi hj hij e
  have := key j hj i hij
  omega
theorem Trn.timE {l L : List Spn} {tr : Int} (h : Trn l L tr) {v : List Of} (hc : chkE l v = 0) (x : Ev) : timE l v x = if x.tr = tr then (if atI l x.id < 0 then none else some (timM l v x)) else none := by
  unfold Go.Proofs.YtaaflhmfhnfjhaaGreat.timE spOfR
  by_cases e : x.tr = tr
  · rw [if_pos e]
    have e1 : l.find? (fun s => s.tr == x.tr && s.id == x.id) = l.find? (fun s => s.id == x.id) := by
      have : ∀ m : List Spn, (∀ s ∈ m, s.tr = tr) → m.find? (fun s => s.tr == x.tr && s.id == x.id) = m.find? (fun s => s.id == x.id) := by
        intro m
        induction m with
        | nil => intro _; rfl
        | cons y m ih =>
          intro hm
          have h1 : (y.tr == x.tr) = true := by rw [beq_iff_eq, e]; exact hm y (by simp)
          rw [List.find?_cons, List.find?_cons, h1, Bool.true_and, ih fun s hs => hm s (by simp [hs])]
      exact this l h.trl
    simp only
    rw [e1]
    cases hf : l.findIdx? (fun s => s.id == x.id) with
    | none =>
      have h1 : l.find? (fun s => s.id == x.id) = none := by
        rw [List.find?_eq_none]
        rw [List.findIdx?_eq_none_iff] at hf
        exact fun y hy => by simpa using hf y hy
      have h2 : atI l x.id = -1 := by simp [atI, hf]
      rw [h1, h2, if_pos (by omega)]; rfl
    | some i =>
      obtain ⟨h4, h5, _⟩ := List.findIdx?_eq_some_iff_getElem.1 hf
      have hk := List.getElem?_eq_getElem h4
      have h2 : atI l x.id = (i : Nat) := by simp [atI, hf]
      have h3 : timM l v x = IntKind.i64.wrap (atS l[i] x.en - offI v l[i].clk) := by simp only [timM, hf, hk]
      rw [h2, if_neg (by omega), h3]
      cases hs : l.find? (fun s => s.id == x.id) with
      | none =>
        rw [List.find?_eq_none] at hs
        exact absurd h5 (hs _ (List.getElem_mem h4))
      | some s =>
        have h6 := List.find?_some hs
        have h7 := List.mem_of_find?_eq_some hs
        have he := id_eq h.ndl h7 (List.getElem_mem h4) (by
          have a1 : s.id = x.id := by simpa using h6
          have a2 : l[i].id = x.id := by simpa using h5
          rw [a1, a2])
        rw [he, Option.map_some, off_eq (chk_nd hc)]
  · rw [if_neg e]
    have : l.find? (fun s => s.tr == x.tr && s.id == x.id) = none := by
      rw [List.find?_eq_none]
      intro s hs
      have := h.trl s hs
      have : ¬ s.tr = x.tr := fun e2 => e (by rw [← e2, this])
      simp [this]
    simp only
    rw [this]; rfl
attribute [local irreducible] W AX Run RunD AStep AOp AOpX AStB AStH AStG Fits PCall GCall PostG Post Stop
end Go.Proofs.YtaaflhmfhnfjhaaGreat
namespace Go.Proofs.YtaaflhmfhnfjhaaGreat
open Go.RowKit Go.Exe
set_option linter.unusedVariables false
set_option linter.unusedSimpArgs false
set_option maxHeartbeats 8000000
set_option maxRecDepth 100000
/-! ### CriticalLengths -/
def badE (l : List Spn) (tr : Int) (x : Ev) : Bool := decide (atI l x.id < 0) || (x.tr != tr)
def badG (l : List Spn) (tr : Int) (g : Sg) : Bool := badE l tr g.fr || badE l tr g.to
def lenM (l : List Spn) (v : List Of) (g : Sg) : Int := IntKind.i64.wrap (timM l v g.to - timM l v g.fr)
theorem Trn.timE2 {l L : List Spn} {tr : Int} (h : Trn l L tr) {v : List Of} (hc : chkE l v = 0) (x : Ev) : Go.Proofs.YtaaflhmfhnfjhaaGreat.timE l v x = if badE l tr x then none else some (timM l v x) := by
  rw [h.timE hc]
  unfold badE
  by_cases h1 : x.tr = tr
  · by_cases h2 : atI l x.id < 0
    · simp [h1, h2]
    · simp [h1, h2]
  · simp [h1]
theorem Trn.lenS {l L : List Spn} {tr : Int} (h : Trn l L tr) {v : List Of} (hc : chkE l v = 0) : ∀ p : List Sg, Go.Proofs.YtaaflhmfhnfjhaaGreat.lenS l v p = if p.any (badG l tr) then none else some (p.map (lenM l v))
  | [] => rfl
  | g :: p => by
    simp only [Go.Proofs.YtaaflhmfhnfjhaaGreat.lenS, h.timE2 hc, Trn.lenS h hc p, List.any_cons, List.map_cons, badG]
    cases badE l tr g.fr with
    | true => simp
    | false =>
      cases badE l tr g.to with
      | true => simp
      | false =>
        simp only [Bool.false_eq_true, if_false, Bool.or_false, Bool.false_or]
        by_cases hp : p.any (fun g => badE l tr g.fr || badE l tr g.to) = true
        · have : p.any (badG l tr) = true := hp
          simp [this]
        · have : p.any (badG l tr) = false := by rw [Bool.not_eq_true] at hp; exact hp
          simp [this, lenM]
theorem wantN_step {l : List Spn} {tr : Int} {p : List Sg} {i : Nat} {g : Sg} (h : p[i]? = some g) : (if (p.take (i + 1)).any (badG l tr) then (10 : Int) else 0) = if badG l tr g then 10 else (if (p.take i).any (badG l tr) then 10 else 0) := by
  rw [List.take_add_one, h, Option.toList_some, List.any_append, List.any_cons, List.any_nil, Bool.or_false]
  cases (p.take i).any (badG l tr) <;> cases badG l tr g <;> rfl
theorem chk_nil {l : List Spn} (h : 0 < l.length) : chkE l [] = 34 := by
  cases l with
  | nil => simp at h
  | cons s l =>
    unfold chkE
    have : (s :: l).any (gapB []) = true := by simp [gapB, offM, getO]
    rw [this]; rfl
theorem len_nil (l : List Spn) (p : List Sg) (h : 0 < l.length) (hl : ∀ s ∈ l, I64 s.clk) : PCall Tryz.prog 24 [spsT l, ft (.slice none 0 0), sgsT p] (nilT 34) := by
  have c := lengths_c l [] p hl (by simp)
  have e : lenT l [] p = nilT 34 := by
    unfold lenT
    rw [if_pos (by rw [chk_nil h]; decide), chk_nil h]
  rw [e] at c
  exact PCall.conv (args' := [spsT l, ofsT [], sgsT p]) c (Al.cons TLe.rfl (Al.cons (TLe.c CLe.nil) (Al.cons TLe.rfl Al.nil))) TLe.rfl
attribute [local irreducible] W AX Run RunD AStep AOp AOpX AStB AStH AStG Fits PCall GCall PostG Post Stop
theorem lengths_law (c53 : SortC Tryz.prog 53 14) (c71 : SortI Tryz.prog 71) (g85 : GrowC Tryz.prog 85 3 1 8) (s : Sto) (hsB : s.okB) (p : List Sg) :
    PCall Tryz.prog 7 [stoT s, sgsT p] (ft (.bool true)) := by
  have c11 := known_c c53 c71 g85
  by_cases hp4 : 4 < p.length
  · have q1 : decide ((p.length : Int) > 4) = true := by simp; omega
    simp only [stoT, stoA, List.map]
    refine PCall.intro (nt := 150) (rs := [.tmp 4]) Tryz.func7 rfl ⟨by kernel_rfl, by kernel_rfl, by kernel_rfl⟩ (by simp) ?_
    rintro ⟨P, w0, ok0, may, np, pblk⟩ rfl rfl
    repeat' (first | ((show W _ _ _ _); first | refine W.seq fun K hK => ?_ | refine W.block ?_ | ((first | refine wR ?_ | refine wD ?_ | refine W.skip ?_ | refine W.exit ?_ | refine W.ret (Post.ret ?_)); simp only [go_sem, reduceCtorEq, q1, List.length_map]) | refine wT ?_ | refine wF ?_ | refine wC (fun h => ?_) (fun h => ?_)) | ((show AX _ _ _ _ _); (first | refine aP ?_ | refine aF ?_); simp only [go_sem, reduceCtorEq, q1, List.length_map]) | refine iK ?_ | refine aI2 ?_ | (refine hK _ ?_; clear hK K) | clear hK K)
  have q1 : decide ((p.length : Int) > 4) = false := by simp; omega
  rcases turned_is s hsB 0 (by omega) with c12 | ⟨l, L, tr, hT, hc, hl0, c12⟩
  · clear c53 c71 g85 hsB
    simp only [stoT, stoA, turnR, List.map, Option.map_none, Option.getD_none, Option.isSome_none] at c12 ⊢
    refine PCall.intro (nt := 150) (rs := [.tmp 4]) Tryz.func7 rfl ⟨by kernel_rfl, by kernel_rfl, by kernel_rfl⟩ (by simp) ?_
    rintro ⟨P, w0, ok0, may, np, pblk⟩ rfl rfl
    repeat' (first | ((show W _ _ _ _); first | refine W.seq fun K hK => ?_ | refine W.block ?_ | ((first | refine wR ?_ | refine wD ?_ | refine W.skip ?_ | refine W.exit ?_ | refine W.ret (Post.ret ?_)); simp only [go_sem, reduceCtorEq, q1, List.length_map]) | refine wT ?_ | refine wF ?_ | refine wC (fun h => ?_) (fun h => ?_)) | ((show AX _ _ _ _ _); (first | refine aP ?_ | refine aF ?_); simp only [go_sem, reduceCtorEq, q1, List.length_map]) | refine iK ?_ | refine aI2 ?_ | (refine hK _ ?_; clear hK K) | clear hK K)
  · have hclk : ∀ s ∈ l, I64 s.clk := fun s hs => (hT.intl s hs).2.2.2
    have hownI := offT_I s
    generalize offT s 4 = own at *
    have c24 := lengths_c l own p hclk hownI
    have d24 := len_nil l p hl0 hclk
    have c18 := fun id => at18_c l id
    have c23 := fun x => time23_c l own [] 0 x
    have hLS := hT.lenS hc p
    unfold lenT at c24
    rw [if_neg (by rw [hc]; simp), hLS] at c24
    obtain ⟨s0, hx0, hm0, _⟩ := drop_at hl0
    have htr0 := hT.trl s0 hm0
    have hlt0 : decide (0 < l.length) = true := by simp [hl0]
    have hll := hT.lenl
    obtain ⟨X, E, k24, hX⟩ : ∃ (X : AV) (E : Int), PCall Tryz.prog 24 [spsT l, ofsT own, sgsT p] (.t [(false, [.im X]), (false, [fl (.int .i64 E)])]) ∧ ((p.any (badG l tr) = true ∧ X = .flat (.slice none 0 0) ∧ E = 10) ∨ (p.any (badG l tr) = false ∧ X = .sl 3 ((p.map (lenM l own)).map iA) ∧ E = 0)) := by
      cases hb : p.any (badG l tr) with
      | false => rw [hb] at c24; exact ⟨_, _, c24, .inr ⟨rfl, rfl, rfl⟩⟩
      | true => rw [hb] at c24; exact ⟨_, _, c24, .inl ⟨rfl, rfl, rfl⟩⟩
    clear c24
    clear c53 c71 g85 hsB hclk hownI hT hLS
    simp only [stoT, stoA, turnR, List.map, Option.map_some, Option.getD_some, Option.isSome_some] at c12 ⊢
    simp only [nilT] at d24
    refine PCall.intro (nt := 150) (rs := [.tmp 4]) Tryz.func7 rfl ⟨by kernel_rfl, by kernel_rfl, by kernel_rfl⟩ (by simp) ?_
    rintro ⟨P, w0, ok0, may, np, pblk⟩ rfl rfl
    repeat' (first | ((show W _ _ _ _); first | refine W.seq fun K hK => ?_ | refine W.block ?_ | ((first | refine wR ?_ | refine wD ?_ | refine W.skip ?_ | refine W.exit ?_ | refine W.ret (Post.ret ?_)); simp only [go_sem, reduceCtorEq, q1, List.length_map]) | refine wT ?_ | refine wF ?_ | refine wC (fun h => ?_) (fun h => ?_)) | ((show AX _ _ _ _ _); (first | refine aP ?_ | refine aF ?_); simp only [go_sem, reduceCtorEq, q1, List.length_map]) | refine iK ?_ | refine aI2 ?_ | (refine hK _ ?_; clear hK K) | clear hK K)
    clear c11 c12 k24
    refine W.loopF (T := fun i : Nat => { t := [(1, sgsT p), (5, spsT l), (8, .c (.im X)), (9, ft (.int .i64 E)), (10, .c (.ptr 0 0)), (11, ft (.int .i64 (if (p.take i).any (badG l tr) then 10 else 0))), (12, ft (.int .i64 (i : Nat)))], h := [(0, .box 58 [.im (.sl 36 (l.map spA)), .im (.sl 80 (own.map ofA)), fl (.slice none 0 0), fl (.int .i64 0)])], nx := 1, ex := [], nt := 150 })
      (Inv := fun i => i ≤ p.length) (μ := fun i => p.length - i) (x0 := 0) ?_ (Nat.zero_le _) ?_
    · refine Fits.fit [(32, 0)] [1, 5, 8, 9, 10, 11, 12] 1 rfl rfl ?_
      simp only [go_sem, List.take_zero, List.any_nil, Bool.false_eq_true, if_false]
      exact Fits.rfl
    rintro i hi KL hKL
    by_cases hlt : i < p.length
    · obtain ⟨g, hx, hm, hd⟩ := drop_at hlt
      have e1 : decide ((i : Int) < p.length) = true := by simp; omega
      have e2 : decide (i < p.length) = true := by simp; omega
      have hw := w64s i (by omega)
      have hst := wantN_step (l := l) (tr := tr) hx
      generalize (if (p.take i).any (badG l tr) then (10 : Int) else 0) = w0' at *
      repeat' (first | ((show W _ _ _ _); first | refine W.stop (id := 12) ?_ | refine W.seq fun K hK => ?_ | refine W.block ?_ | ((first | refine wR ?_ | refine wD ?_ | refine W.skip ?_ | refine W.exit ?_ | refine W.ret (Post.ret ?_)); simp only [go_sem, reduceCtorEq, e1, List.length_map]) | refine wT ?_ | refine wF ?_ | refine wC (fun h => ?_) (fun h => ?_)) | ((show AX _ _ _ _ _); (first | refine aP ?_ | refine aF ?_); simp only [go_sem, reduceCtorEq, e1, List.length_map]) | refine iK ?_ | refine aI2 ?_ | (refine hK _ ?_; clear hK K) | clear hK K)
      refine Stop.out ?_
      have hKb : ∀ b, badG l tr g = b → ∀ s1, Fits { P := Tryz.prog, w0 := w0, ok0 := ok0, may := may, np := 0, pblk := pblk } s1 { t := [(1, sgsT p), (5, spsT l), (8, .c (.im X)), (9, ft (.int .i64 E)), (10, .c (.ptr 0 0)), (11, ft (.int .i64 w0')), (12, ft (.int .i64 (i : Nat))), (97, ft (.bool b))], h := [(0, .box 58 [.im (.sl 36 (l.map spA)), .im (.sl 80 (own.map ofA)), fl (.slice none 0 0), fl (.int .i64 0)])], nx := 1, ex := [], nt := 150 } → K s1 := by
        intro b hb s1 hf
        refine hK _ (W.fits hf ?_)
        clear hf hK K
        rw [hb] at hst
        cases b with
        | false =>
          repeat' (first | ((show W _ _ _ _); first | refine W.seq fun K hK => ?_ | refine W.block ?_ | ((first | refine wR ?_ | refine wD ?_ | refine W.skip ?_ | refine W.exit ?_ | refine W.ret (Post.ret ?_)); simp only [go_sem, reduceCtorEq, hw]) | refine wT ?_ | refine wF ?_ | refine wC (fun h => ?_) (fun h => ?_)) | ((show AX _ _ _ _ _); (first | refine aP ?_ | refine aF ?_); simp only [go_sem, reduceCtorEq, hw]) | refine iK ?_ | refine aI2 ?_ | (refine hK _ ?_; clear hK K) | clear hK K)
          refine hKL.to (i + 1) (by omega) (by omega) (Fits.fit [(0, 0)] [1, 5, 8, 9, 10, 11, 12] 1 rfl rfl ?_)
          simp only [go_sem, hst]
          exact Fits.rfl
        | true =>
          repeat' (first | ((show W _ _ _ _); first | refine W.seq fun K hK => ?_ | refine W.block ?_ | ((first | refine wR ?_ | refine wD ?_ | refine W.skip ?_ | refine W.exit ?_ | refine W.ret (Post.ret ?_)); simp only [go_sem, reduceCtorEq, hw]) | refine wT ?_ | refine wF ?_ | refine wC (fun h => ?_) (fun h => ?_)) | ((show AX _ _ _ _ _); (first | refine aP ?_ | refine aF ?_); simp only [go_sem, reduceCtorEq, hw]) | refine iK ?_ | refine aI2 ?_ | (refine hK _ ?_; clear hK K) | clear hK K)
          refine hKL.to (i + 1) (by omega) (by omega) (Fits.fit [(0, 0)] [1, 5, 8, 9, 10, 11, 12] 1 rfl rfl ?_)
          simp only [go_sem, hst]
          exact Fits.rfl
      clear hK hKL hst
      have cf := c18 g.fr.id
      have ct := c18 g.to.id
      have hbd : badG l tr g = ((decide (atI l g.fr.id < 0) || (g.fr.tr != tr)) || (decide (atI l g.to.id < 0) || (g.to.tr != tr))) := rfl
      clear c18 c23 d24 hX
      by_cases b1 : atI l g.fr.id < 0
      · have f1 : decide (atI l g.fr.id < 0) = true := by simp [b1]
        rw [f1] at hbd
        repeat' (first | ((show W _ _ _ _); first | refine W.seq fun K hK => ?_ | refine W.block ?_ | ((first | refine wR ?_ | refine wD ?_ | refine W.skip ?_ | refine W.exit ?_ | refine W.ret (Post.ret ?_)); simp only [go_sem, reduceCtorEq, List.getElem?_map, hx, sgA, e2, f1, List.length_map]) | refine wT ?_ | refine wF ?_ | refine wC (fun h => ?_) (fun h => ?_)) | ((show AX _ _ _ _ _); (first | refine aP ?_ | refine aF ?_); simp only [go_sem, reduceCtorEq, List.getElem?_map, hx, sgA, e2, f1, List.length_map]) | refine iK ?_ | refine aI2 ?_ | (refine hK _ ?_; clear hK K) | clear hK K)
        refine hKb true (by rw [hbd]; simp) _ (Fits.fit [(0, 0)] [1, 5, 8, 9, 10, 11, 12, 97] 1 rfl rfl ?_)
        simp only [go_sem]
        exact Fits.rfl
      have f1 : decide (atI l g.fr.id < 0) = false := by simp; omega
      by_cases b2 : atI l g.to.id < 0
      · have f2 : decide (atI l g.to.id < 0) = true := by simp [b2]
        rw [f2] at hbd
        repeat' (first | ((show W _ _ _ _); first | refine W.seq fun K hK => ?_ | refine W.block ?_ | ((first | refine wR ?_ | refine wD ?_ | refine W.skip ?_ | refine W.exit ?_ | refine W.ret (Post.ret ?_)); simp only [go_sem, reduceCtorEq, List.getElem?_map, hx, sgA, e2, f1, f2, List.length_map]) | refine wT ?_ | refine wF ?_ | refine wC (fun h => ?_) (fun h => ?_)) | ((show AX _ _ _ _ _); (first | refine aP ?_ | refine aF ?_); simp only [go_sem, reduceCtorEq, List.getElem?_map, hx, sgA, e2, f1, f2, List.length_map]) | refine iK ?_ | refine aI2 ?_ | (refine hK _ ?_; clear hK K) | clear hK K)
        refine hKb true (by rw [hbd]; simp) _ (Fits.fit [(0, 0)] [1, 5, 8, 9, 10, 11, 12, 97] 1 rfl rfl ?_)
        simp only [go_sem]
        exact Fits.rfl
      have f2 : decide (atI l g.to.id < 0) = false := by simp; omega
      by_cases b3 : g.fr.tr = tr
      rotate_left
      · have f3 : (g.fr.tr != s0.tr) = true := by rw [htr0]; simp [b3]
        have f3' : (g.fr.tr != tr) = true := by simp [b3]
        rw [f3'] at hbd
        repeat' (first | ((show W _ _ _ _); first | refine W.seq fun K hK => ?_ | refine W.block ?_ | ((first | refine wR ?_ | refine wD ?_ | refine W.skip ?_ | refine W.exit ?_ | refine W.ret (Post.ret ?_)); simp only [go_sem, reduceCtorEq, List.getElem?_map, hx, hx0, hlt0, spA, sgA, e2, f1, f2, f3, List.length_map]) | refine wT ?_ | refine wF ?_ | refine wC (fun h => ?_) (fun h => ?_)) | ((show AX _ _ _ _ _); (first | refine aP ?_ | refine aF ?_); simp only [go_sem, reduceCtorEq, List.getElem?_map, hx, hx0, hlt0, spA, sgA, e2, f1, f2, f3, List.length_map]) | refine iK ?_ | refine aI2 ?_ | (refine hK _ ?_; clear hK K) | clear hK K)
        refine hKb true (by rw [hbd]; simp) _ (Fits.fit [(0, 0)] [1, 5, 8, 9, 10, 11, 12, 97] 1 rfl rfl ?_)
        simp only [go_sem]
        exact Fits.rfl
      have f3 : (g.fr.tr != s0.tr) = false := by rw [htr0, b3]; simp
      have f3' : (g.fr.tr != tr) = false := by simp [b3]
      by_cases b4 : g.to.tr = tr
      · have f4 : (g.to.tr != s0.tr) = false := by rw [htr0, b4]; simp
        have f4' : (g.to.tr != tr) = false := by simp [b4]
        rw [f1, f2, f3', f4'] at hbd
        repeat' (first | ((show W _ _ _ _); first | refine W.seq fun K hK => ?_ | refine W.block ?_ | ((first | refine wR ?_ | refine wD ?_ | refine W.skip ?_ | refine W.exit ?_ | refine W.ret (Post.ret ?_)); simp only [go_sem, reduceCtorEq, List.getElem?_map, hx, hx0, hlt0, spA, sgA, e2, f1, f2, f3, f4, List.length_map]) | refine wT ?_ | refine wF ?_ | refine wC (fun h => ?_) (fun h => ?_)) | ((show AX _ _ _ _ _); (first | refine aP ?_ | refine aF ?_); simp only [go_sem, reduceCtorEq, List.getElem?_map, hx, hx0, hlt0, spA, sgA, e2, f1, f2, f3, f4, List.length_map]) | refine iK ?_ | refine aI2 ?_ | (refine hK _ ?_; clear hK K) | clear hK K)
        refine hKb false (by rw [hbd]; rfl) _ (Fits.fit [(0, 0)] [1, 5, 8, 9, 10, 11, 12, 97] 1 rfl rfl ?_)
        simp only [go_sem]
        exact Fits.rfl
      · have f4 : (g.to.tr != s0.tr) = true := by rw [htr0]; simp [b4]
        have f4' : (g.to.tr != tr) = true := by simp [b4]
        rw [f4'] at hbd
        repeat' (first | ((show W _ _ _ _); first | refine W.seq fun K hK => ?_ | refine W.block ?_ | ((first | refine wR ?_ | refine wD ?_ | refine W.skip ?_ | refine W.exit ?_ | refine W.ret (Post.ret ?_)); simp only [go_sem, reduceCtorEq, List.getElem?_map, hx, hx0, hlt0, spA, sgA, e2, f1, f2, f3, f4, List.length_map]) | refine wT ?_ | refine wF ?_ | refine wC (fun h => ?_) (fun h => ?_)) | ((show AX _ _ _ _ _); (first | refine aP ?_ | refine aF ?_); simp only [go_sem, reduceCtorEq, List.getElem?_map, hx, hx0, hlt0, spA, sgA, e2, f1, f2, f3, f4, List.length_map]) | refine iK ?_ | refine aI2 ?_ | (refine hK _ ?_; clear hK K) | clear hK K)
        refine hKb true (by rw [hbd]; simp) _ (Fits.fit [(0, 0)] [1, 5, 8, 9, 10, 11, 12, 97] 1 rfl rfl ?_)
        simp only [go_sem]
        exact Fits.rfl
    · obtain rfl : i = p.length := by omega
      have e1 : decide ((p.length : Int) < p.length) = false := by simp
      have n1 : ((10 : Int) != 10) = false := by decide
      have n2 : ((10 : Int) != 0) = true := by decide
      have n3 : ((10 : Int) == 10) = true := by decide
      have n4 : ((0 : Int) == 0) = true := by decide
      have n5 : ((0 : Int) != 0) = false := by decide
      have n6 : (((0 : Nat) : Int) == 0) = true := by decide
      rw [List.take_length]
      clear hKL
      rcases hX with ⟨hb, rfl, rfl⟩ | ⟨hb, rfl, rfl⟩
      · rw [if_pos hb]
        clear c18 c23 d24
        repeat' (first | ((show W _ _ _ _); first | refine W.seq fun K hK => ?_ | refine W.block ?_ | ((first | refine wR ?_ | refine wD ?_ | refine W.skip ?_ | refine W.exit ?_ | refine W.ret (Post.ret ?_)); simp only [go_sem, reduceCtorEq, e1, n1, n2, n3, n4, n6, List.length_map]) | refine wT ?_ | refine wF ?_ | refine wC (fun h => ?_) (fun h => ?_)) | ((show AX _ _ _ _ _); (first | refine aP ?_ | refine aF ?_); simp only [go_sem, reduceCtorEq, e1, n1, n2, n3, n4, n6, List.length_map]) | refine iK ?_ | refine aI2 ?_ | (refine hK _ ?_; clear hK K) | clear hK K)
      · rw [if_neg (by rw [hb]; simp)]
        have m1 : ((p.length : Int) != (p.length : Int)) = false := by simp
        clear c18
        repeat' (first | ((show W _ _ _ _); first | refine W.stop (id := 18) ?_ | refine W.seq fun K hK => ?_ | refine W.block ?_ | ((first | refine wR ?_ | refine wD ?_ | refine W.skip ?_ | refine W.exit ?_ | refine W.ret (Post.ret ?_)); simp only [go_sem, reduceCtorEq, e1, n5, m1, List.length_map]) | refine wT ?_ | refine wF ?_ | refine wC (fun h => ?_) (fun h => ?_)) | ((show AX _ _ _ _ _); (first | refine aP ?_ | refine aF ?_); simp only [go_sem, reduceCtorEq, e1, n5, m1, List.length_map]) | refine iK ?_ | refine aI2 ?_ | (refine hK _ ?_; clear hK K) | clear hK K)
        refine Stop.out ?_
        refine W.fits (Fits.adoptB 0 58 _ 2 900 193 rfl rfl rfl rfl tE193 rfl (Fits.toNB 0 rfl (Fits.fold 0 0 2 900 (.orow 193 []) rfl rfl rfl (by simp [Obj.slot, refCell]) (by decide) Fits.rfl))) ?_
        simp only [go_sem, List.set_cons_zero, List.set_cons_succ]
        repeat' (first | ((show W _ _ _ _); first | refine W.seq fun K hK => ?_ | refine W.block ?_ | ((first | refine wR ?_ | refine wD ?_ | refine W.skip ?_ | refine W.exit ?_ | refine W.ret (Post.ret ?_)); simp only [go_sem, reduceCtorEq]) | refine wT ?_ | refine wF ?_ | refine wC (fun h => ?_) (fun h => ?_)) | ((show AX _ _ _ _ _); (first | refine aP ?_ | refine aF ?_); simp only [go_sem, reduceCtorEq]) | refine iK ?_ | refine aI2 ?_ | (refine hK _ ?_; clear hK K) | clear hK K)
        refine W.loopF (T := fun i : Nat => { t := [(1, sgsT p), (5, spsT l), (8, .c (.im (.sl 3 ((p.map (lenM l own)).map iA)))), (10, .c (.ptr 0 0)), (13, ft (.int .i64 (i : Nat)))], h := [(0, .nbox 58 [.im (.sl 36 (l.map spA)), .im (.sl 80 (own.map ofA)), .orow 193 [], fl (.int .i64 0)])], nx := 1, ex := [], nt := 150 })
          (Inv := fun i => i ≤ p.length) (μ := fun i => p.length - i) (x0 := 0) ?_ (Nat.zero_le _) ?_
        · refine Fits.fit [(0, 0)] [1, 5, 8, 10, 13] 1 rfl rfl ?_
          simp only [go_sem, List.map_nil]
          exact Fits.rfl
        rintro i hi KL hKL
        by_cases hlt : i < p.length
        · obtain ⟨g, hx, hm, hd⟩ := drop_at hlt
          have e1 : decide ((i : Int) < p.length) = true := by simp; omega
          have e2 : decide (i < p.length) = true := by simp; omega
          have hw := w64s i (by omega)
          have cf := c23 g.fr
          have ct := c23 g.to
          have hm2 : lenM l own g = IntKind.i64.wrap (timM l own g.to - timM l own g.fr) := rfl
          have m2 : (IntKind.i64.wrap (timM l own g.to - timM l own g.fr) != IntKind.i64.wrap (timM l own g.to - timM l own g.fr)) = false := by simp
          simp only [clO, evT, evA, List.map] at cf ct
          clear c23 d24
          repeat' (first | ((show W _ _ _ _); first | refine W.seq fun K hK => ?_ | refine W.block ?_ | ((first | refine wR ?_ | refine wD ?_ | refine W.skip ?_ | refine W.exit ?_ | refine W.ret (Post.ret ?_)); simp only [go_sem, reduceCtorEq, e1, e2, List.getElem?_map, hx, sgA, iA, List.length_map, Option.map_some]) | refine wT ?_ | refine wF ?_ | refine wC (fun h => ?_) (fun h => ?_)) | ((show AX _ _ _ _ _); (first | refine aP ?_ | refine aF ?_); simp only [go_sem, reduceCtorEq, e1, e2, List.getElem?_map, hx, sgA, iA, List.length_map, Option.map_some]) | refine iK ?_ | refine aI2 ?_ | (refine hK _ ?_; clear hK K) | clear hK K)
          refine AX.gcall [0] rfl rfl (ct) (by simp only [go_sem, reduceCtorEq, List.getElem?_map, hx, sgA, Option.map_some]) (by simp only [go_sem, reduceCtorEq, List.getElem?_map, hx, sgA, Option.map_some]) rfl rfl (by simp only [go_sem, Obj.owns]) rfl (by simp only [go_sem, Obj.owns]) rfl rfl ?_
          simp only [go_sem, reduceCtorEq, List.getElem?_map, hx, sgA, Option.map_some]
          repeat' (first | ((show W _ _ _ _); first | refine W.seq fun K hK => ?_ | refine W.block ?_ | ((first | refine wR ?_ | refine wD ?_ | refine W.skip ?_ | refine W.exit ?_ | refine W.ret (Post.ret ?_)); simp only [go_sem, reduceCtorEq, e1, e2, List.getElem?_map, hx, sgA, iA, List.length_map, Option.map_some]) | refine wT ?_ | refine wF ?_ | refine wC (fun h => ?_) (fun h => ?_)) | ((show AX _ _ _ _ _); (first | refine aP ?_ | refine aF ?_); simp only [go_sem, reduceCtorEq, e1, e2, List.getElem?_map, hx, sgA, iA, List.length_map, Option.map_some]) | refine iK ?_ | refine aI2 ?_ | (refine hK _ ?_; clear hK K) | clear hK K)
          refine AX.gcall [0] rfl rfl (cf) (by simp only [go_sem, reduceCtorEq, List.getElem?_map, hx, sgA, Option.map_some, hm2, m2]) (by simp only [go_sem, reduceCtorEq, List.getElem?_map, hx, sgA, Option.map_some, hm2, m2]) rfl rfl (by simp only [go_sem, Obj.owns]) rfl (by simp only [go_sem, Obj.owns]) rfl rfl ?_
          simp only [go_sem, reduceCtorEq, List.getElem?_map, hx, sgA, Option.map_some, hm2, m2]
          repeat' (first | ((show W _ _ _ _); first | refine W.seq fun K hK => ?_ | refine W.block ?_ | ((first | refine wR ?_ | refine wD ?_ | refine W.skip ?_ | refine W.exit ?_ | refine W.ret (Post.ret ?_)); simp only [go_sem, reduceCtorEq, e1, e2, List.getElem?_map, hx, sgA, iA, List.length_map, Option.map_some, hm2, m2, hw]) | refine wT ?_ | refine wF ?_ | refine wC (fun h => ?_) (fun h => ?_)) | ((show AX _ _ _ _ _); (first | refine aP ?_ | refine aF ?_); simp only [go_sem, reduceCtorEq, e1, e2, List.getElem?_map, hx, sgA, iA, List.length_map, Option.map_some, hm2, m2, hw]) | refine iK ?_ | refine aI2 ?_ | (refine hK _ ?_; clear hK K) | clear hK K)
          refine hKL.to (i + 1) (by omega) (by omega) (Fits.fit [(0, 0)] [1, 5, 8, 10, 13] 1 rfl rfl ?_)
          simp only [go_sem]
          exact Fits.rfl
        · obtain rfl : i = p.length := by omega
          have e1 : decide ((p.length : Int) < p.length) = false := by simp
          have n7 : ((34 : Int) == 34) = true := by decide
          clear hKL c23
          repeat' (first | ((show W _ _ _ _); first | refine W.seq fun K hK => ?_ | refine W.block ?_ | ((first | refine wR ?_ | refine wD ?_ | refine W.skip ?_ | refine W.exit ?_ | refine W.ret (Post.ret ?_)); simp only [go_sem, reduceCtorEq, e1, n7, List.length_map]) | refine wT ?_ | refine wF ?_ | refine wC (fun h => ?_) (fun h => ?_)) | ((show AX _ _ _ _ _); (first | refine aP ?_ | refine aF ?_); simp only [go_sem, reduceCtorEq, e1, n7, List.length_map]) | refine iK ?_ | refine aI2 ?_ | (refine hK _ ?_; clear hK K) | clear hK K)
end Go.Proofs.YtaaflhmfhnfjhaaGreat
namespace Go.Proofs.YtaaflhmfhnfjhaaGreat
open Go.ChangeShapes Go.WideShapes Go.ChangeAt Go.RowKit Go.Exe
set_option maxRecDepth 100000
set_option maxHeartbeats 1600000

def lensC : Prop := ∀ (x0 : List AV) (x1 : AV), Typ Tryz.prog 7 27 x0 → Typ Tryz.prog 7 37 [x1] → PCall Tryz.prog 7 [.g (x0.map .im), .c (.im x1)] (ft (.bool true))
theorem lens_lifted (hc : lensC) (os : Os) (started : os.Started) (H : Type) (enc : TypeId × Value → H) :
    ReturnsInHanded {} Tryz.checked os 7 .any (Rows.criticalLengthsSpec.pre6 enc Tryz.prog Tryz.f7 Rows.criticalLengthsRow.domain false) (Rows.criticalLengthsSpec.post enc Tryz.prog Tryz.f7 false Rows.criticalLengthsRow.fresh Rows.criticalLengthsRow.handsOn Rows.criticalLengthsRow.again) := by
  refine returnsInHanded_of_change_sized (C := Tryz.checked) Tryz.own started (by kernel_rfl) Tryz.func7
    (ChangeSpec.witness6 (enc := enc) (C := Tryz.checked) false ⟨#[], #[.agg #[.slice none 0 0, .int .i8 0, .int .i8 0, .int .i8 0, .int .i8 0, .slice none 0 0, .int .u8 0], .slice none 0 0], []⟩ 8 (by kernel_rfl) (by kernel_rfl) (by kernel_rfl) (by kernel_rfl)) ?_
  intro W base args ds gs before hval0 hW _ hsz0 _
  have hsz : (DataW.weightsEach Tryz.prog (Tryz.f7.params.toList ++ Rows.criticalLengthsSpec.plain.varTypes Tryz.prog) (ds ++ gs)).all (· ≤ reachBytes) = true := hsz0
  clear hsz0
  have hval : ∀ (j : Nat) t v, Tryz.f7.params[j]? = some t → args[j]? = some v → Value.okWide Tryz.prog W .any base t v := hval0
  have hW' := hW
  obtain ⟨p, q, hA0, hV, rfl, hfz, hnd⟩ := hW
  have hA : DataW.TrodAll enc Tryz.prog W 0 (fun _ => true) true Tryz.f7.params.toList args.toList ds p := hA0
  rw [Tryz.params7] at hA hval hsz
  obtain ⟨v0, v1, d0, d1, p0, p1, rfl, rfl, rfl, h0, h1⟩ := trodAll_two hA
  obtain ⟨rfl, rfl⟩ := trodVars_none hV
  clear hA0 hval0
  simp only [List.append_nil] at hW'
  obtain ⟨x0, r0, y0⟩ := arg_g (j := 0) 7 (by kernel_rfl) (by obtain ⟨cs, hcs, _⟩ := okWide_struct rfl (hval 0 27 v0 rfl rfl); exact ⟨cs, hcs⟩) h0 hsz rfl rfl
  obtain ⟨x1, r1, y1⟩ := arg_c (j := 1) 7 (by kernel_rfl) (by obtain ⟨z1, z2, z3, hz⟩ := okWide_slice rfl (hval 1 37 v1 rfl rfl); rw [hz]; rfl) h1 hsz rfl rfl
  have hlt : ∀ x ∈ p0 ++ p1, x.block < W.heap.size := fun x hx => by simpa using hW'.lt x hx
  have hargs : ∀ (W' : World), Below W.heap.size W W' → DataW.TrodAll enc Tryz.prog W' 0 (fun b => decide (b < W.heap.size)) true Tryz.f7.params.toList [v0, v1] [d0, d1] (p0 ++ p1) := fun W' hn => by
    have k27 : ∀ {v d ps}, DataW.Trod enc Tryz.prog W 0 (fun _ => true) true 27 v d ps → (∀ x ∈ ps, x.block < W.heap.size) → DataW.Trod enc Tryz.prog W' 0 (fun b => decide (b < W.heap.size)) true 27 v d ps :=
      fun h hl => Below.trod Tryz.laidOut (by kernel_rfl) (of_decide_eq_true (by kernel_rfl)) h hn hl
    have k37 : ∀ {v d ps}, DataW.Trod enc Tryz.prog W 0 (fun _ => true) true 37 v d ps → (∀ x ∈ ps, x.block < W.heap.size) → DataW.Trod enc Tryz.prog W' 0 (fun b => decide (b < W.heap.size)) true 37 v d ps :=
      fun h hl => Below.trod Tryz.laidOut (by kernel_rfl) (of_decide_eq_true (by kernel_rfl)) h hn hl
    rw [Tryz.params7]
    exact trodAll_mk2 (k27 h0 fun x hx => hlt x (by simp [hx])) (k37 h1 fun x hx => hlt x (by simp [hx]))
  have hcall := (hc x0 x1 y0 y1).2 (fun _ => True) W [v0, v1] (Al.cons r0 (Al.cons r1 Al.nil))
  refine hcall.mono fun e W' ⟨v, he, ⟨hB, _⟩, hr⟩ => ?_
  subst he
  obtain rfl : v = .bool true := RepA.flat_eq hr
  refine ⟨_, rfl, _, _, _, [], p0 ++ p1, [], hW', ?_, ?_, ?_, hB.frame _, fun h => by cases h⟩
  · exact trodAll_mk1 (shut_bool under4 true)
  · exact hargs W' hB
  · rfl
theorem lens_holds (hc : lensC) : Rows.CriticalLengthsSaid :=
  OpenClaim.holds_of_wide 7 Tryz.f7 rfl rfl rfl rfl rfl rfl rfl ⟨rfl, rfl, rfl, rfl, rfl⟩ rfl rfl rfl rfl rfl (by kernel_rfl) Tryz.func7 (by kernel_rfl)
    (of_decide_eq_true (by kernel_rfl)) (by unfold Func.isWrapper; rw [if_neg (by decide +kernel)]; exact ⟨rfl, rfl⟩)
    (fun os started H enc _ => lens_lifted hc os started H enc)
end Go.Proofs.YtaaflhmfhnfjhaaGreat
namespace Go.Proofs.YtaaflhmfhnfjhaaGreat
open Go.RowKit Go.Exe
set_option maxRecDepth 100000
theorem int_in {f : Nat} {xs : List AV} (h : Typ Tryz.prog (f + 1) 3 xs) : ∃ n : Int, xs = [.flat (.int .i64 n)] := by
  obtain ⟨n, rfl, _⟩ := Typ.int tU3 h
  exact ⟨n, rfl⟩
theorem rf_in {f : Nat} {xs : List AV} (h : Typ Tryz.prog (f + 2) 50 xs) : ∃ x : Rf, xs = refA x := by
  obtain ⟨parts, rfl, hp⟩ := Typ.st (ts := [3, 3]) (by kernel_rfl) h
  match parts, hp with
  | [a0, a1], hp =>
    simp only [Al.cons_iff] at hp
    obtain ⟨h0, h1, _⟩ := hp
    obtain ⟨n0, rfl⟩ := int_in h0
    obtain ⟨n1, rfl⟩ := int_in h1
    exact ⟨(n0, n1), rfl⟩
theorem evn_in {f : Nat} {xs : List AV} (h : Typ Tryz.prog (f + 3) 52 xs) : ∃ x : Ev, xs = evA x := by
  obtain ⟨parts, rfl, hp⟩ := Typ.st (ts := [50, 4]) (by kernel_rfl) h
  match parts, hp with
  | [a0, a1], hp =>
    simp only [Al.cons_iff] at hp
    obtain ⟨h0, h1, _⟩ := hp
    obtain ⟨b, rfl⟩ := Typ.bool tU4 h1
    obtain ⟨r, rfl⟩ := rf_in h0
    exact ⟨⟨r.1, r.2, b⟩, rfl⟩
theorem sg_in {f : Nat} {xs : List AV} (h : Typ Tryz.prog (f + 4) 66 xs) : ∃ x : Sg, True ∧ xs = sgA x := by
  obtain ⟨parts, rfl, hp⟩ := Typ.st (ts := [50, 52, 52]) (by kernel_rfl) h
  match parts, hp with
  | [a0, a1, a2], hp =>
    simp only [Al.cons_iff] at hp
    obtain ⟨h0, h1, h2, _⟩ := hp
    obtain ⟨r, rfl⟩ := rf_in h0
    obtain ⟨x, rfl⟩ := evn_in h1
    obtain ⟨y, rfl⟩ := evn_in h2
    exact ⟨⟨r, x, y⟩, trivial, rfl⟩
theorem sgs_in {f : Nat} {x : AV} (h : Typ Tryz.prog (f + 5) 37 [x]) : ∃ p : List Sg, x = .sl 66 (p.map sgA) := by
  obtain ⟨rows, hx, hr⟩ := Typ.sl tL37 h
  obtain ⟨p, _, rfl⟩ := rows_of (ok := fun _ : Sg => True) (enc := sgA) fun r hr' => sg_in (hr r hr')
  cases hx
  exact ⟨p, rfl⟩
theorem ytaaflhmfhnfjhaagreat_criticalLengths_holds : Rows.CriticalLengthsSaid := lens_holds fun x0 x1 h0 h1 => by
  obtain ⟨s, hs, rfl⟩ := sto_in (f := 1) h0
  obtain ⟨p, rfl⟩ := sgs_in (f := 2) h1
  exact lengths_law sort53_c sort71_c grow85_c s hs p
end Go.Proofs.YtaaflhmfhnfjhaaGreat
