import Derived.Test.YtaaflhmfhnfjhaaGreatM7
import Derived.Test.YtaaflhmfhnfjhaaGreatM3
import Derived.Test.YtaaflhmfhnfjhaaGreatM5
set_option linter.unusedVariables false
set_option linter.unusedSimpArgs false
set_option maxHeartbeats 8000000
set_option maxRecDepth 100000
namespace Go.Proofs.YtaaflhmfhnfjhaaGreat
open Go.RowKit Go.Exe
/-- What the walk adds to the path; none where the steps did not suffice. -/
def wkF (bf : Ev → Ev → Bool) (kid : Int → List Spn) : Nat → Spn → Ev → Ev → Option (List Sg)
  | 0, _, _, _ => none
  | n + 1, s, lo, cur =>
    if askB bf lo cur then
      match chooseF bf (kid s.id) lo cur with
      | none => some [⟨(s.tr, s.id), lo, cur⟩]
      | some y =>
        match wkF bf kid n y.1 (if askB bf lo (evOf y.1 false) then evOf y.1 false else lo) y.2, wkF bf kid n s lo (if askB bf lo (evOf y.1 false) then evOf y.1 false else lo) with
        | some q1, some q2 => some ((if y.2 = cur then [] else [⟨(s.tr, s.id), y.2, cur⟩]) ++ q1 ++ q2)
        | _, _ => none
    else some []
theorem wkF_none {bf : Ev → Ev → Bool} {kid : Int → List Spn} {n : Nat} {s : Spn} {lo cur : Ev} {q : List Sg} (h : wkF bf kid (n + 1) s lo cur = some q) (ha : askB bf lo cur = true) (hc : chooseF bf (kid s.id) lo cur = none) : q = [⟨(s.tr, s.id), lo, cur⟩] := by
  simp only [wkF, ha, if_true, hc] at h
  exact (Option.some.inj h).symm
theorem wkF_no {bf : Ev → Ev → Bool} {kid : Int → List Spn} {n : Nat} {s : Spn} {lo cur : Ev} {q : List Sg} (h : wkF bf kid (n + 1) s lo cur = some q) (ha : askB bf lo cur = false) : q = [] := by
  simp [wkF, ha] at h
  exact h
theorem wkF_some {bf : Ev → Ev → Bool} {kid : Int → List Spn} {n : Nat} {s : Spn} {lo cur : Ev} {q : List Sg} (h : wkF bf kid (n + 1) s lo cur = some q) (ha : askB bf lo cur = true) {c : Spn} {v : Ev} (hc : chooseF bf (kid s.id) lo cur = some (c, v)) :
    ∃ q1 q2, wkF bf kid n c (if askB bf lo (evOf c false) then evOf c false else lo) v = some q1 ∧ wkF bf kid n s lo (if askB bf lo (evOf c false) then evOf c false else lo) = some q2 ∧ q = (if v = cur then [] else [⟨(s.tr, s.id), v, cur⟩]) ++ q1 ++ q2 := by
  simp only [wkF, ha, if_true, hc] at h
  cases h1 : wkF bf kid n c (if askB bf lo (evOf c false) then evOf c false else lo) v with
  | none => rw [h1] at h; simp at h
  | some q1 =>
    cases h2 : wkF bf kid n s lo (if askB bf lo (evOf c false) then evOf c false else lo) with
    | none => rw [h1, h2] at h; simp at h
    | some q2 =>
      rw [h1, h2] at h
      exact ⟨q1, q2, rfl, rfl, (Option.some.inj h).symm⟩
theorem wkF_one {bf : Ev → Ev → Bool} {kid : Int → List Spn} : ∀ {n : Nat} {s : Spn} {lo cur : Ev} {q : List Sg}, wkF bf kid n s lo cur = some q → wkF bf kid (n + 1) s lo cur = some q
  | 0, _, _, _, _, h => by simp [wkF] at h
  | n + 1, s, lo, cur, q, h => by
    cases hA : askB bf lo cur with
    | false => rw [wkF_no h hA]; simp [wkF, hA]
    | true =>
      cases hC : chooseF bf (kid s.id) lo cur with
      | none => rw [wkF_none h hA hC]; simp [wkF, hA, hC]
      | some y =>
        obtain ⟨c, v⟩ := y
        obtain ⟨q1, q2, h1, h2, rfl⟩ := wkF_some h hA hC
        have h1 := wkF_one h1
        have h2 := wkF_one h2
        rw [wkF]
        simp only [hA, if_true, hC, h1, h2]
theorem wkF_mono {bf : Ev → Ev → Bool} {kid : Int → List Spn} {n k : Nat} {s : Spn} {lo cur : Ev} {q : List Sg} (h : wkF bf kid n s lo cur = some q) (hk : n ≤ k) : wkF bf kid k s lo cur = some q := by
  obtain ⟨d, rfl⟩ := Nat.exists_eq_add_of_le hk
  clear hk
  induction d with
  | zero => exact h
  | succ d ih => exact wkF_one ih
theorem chooseF_mem {bf : Ev → Ev → Bool} {l : List Spn} {lo cur : Ev} {y : Spn × Ev} (h : chooseF bf l lo cur = some y) : y.1 ∈ l := by
  have key : ∀ (l : List Spn) (acc : Option (Spn × Ev)) (y : Spn × Ev), l.foldl (chStep bf lo cur) acc = some y → y.1 ∈ l ∨ acc = some y := by
    intro l
    induction l with
    | nil => intro acc y h; exact .inr h
    | cons k l ih =>
      intro acc y h
      rcases ih _ _ h with h | h
      · exact .inl (by simp [h])
      · rw [chStep_eq] at h
        by_cases hA : (askB bf (evOf k false) cur && askB bf lo (evOf k true) && askB bf (evOf k false) (evOf k true)) = true
        · rw [if_pos hA] at h
          cases acc with
          | none => exact .inl (by simp only [Option.some.injEq] at h; simp [← h])
          | some y0 =>
            simp only at h
            generalize (if askB bf (evOf k true) cur = true then evOf k true else cur) = v at h
            by_cases hB : askB bf y0.2 v = true
            · rw [if_pos hB] at h; exact .inl (by simp only [Option.some.injEq] at h; simp [← h])
            · rw [if_neg hB] at h; exact .inr h
        · rw [if_neg hA] at h; exact .inr h
  rcases key l none y h with h | h
  · exact h
  · simp at h
theorem chooseF_ok {bf : Ev → Ev → Bool} {l : List Spn} {lo cur : Ev} (hl : ∀ z ∈ l, I64 z.tr ∧ I64 z.id) (hc : okE cur) {y : Spn × Ev} (h : chooseF bf l lo cur = some y) : okE y.2 := by
  have key : ∀ (l : List Spn) (acc : Option (Spn × Ev)), (∀ z ∈ l, I64 z.tr ∧ I64 z.id) → (∀ y, acc = some y → okE y.2) → ∀ y, l.foldl (chStep bf lo cur) acc = some y → okE y.2 := by
    intro l
    induction l with
    | nil => intro acc _ h y e; exact h y e
    | cons k l ih =>
      intro acc hl h y e
      refine ih _ (fun z hz => hl z (by simp [hz])) ?_ y e
      intro y2 h2
      have hk := hl k (by simp)
      rw [chStep_eq] at h2
      have hv : okE (if askB bf (evOf k true) cur then evOf k true else cur) := by
        split
        · exact hk
        · exact hc
      generalize (if askB bf (evOf k true) cur = true then evOf k true else cur) = v at h2 hv
      by_cases hA : (askB bf (evOf k false) cur && askB bf lo (evOf k true) && askB bf (evOf k false) (evOf k true)) = true
      · rw [if_pos hA] at h2
        cases acc with
        | none => simp only [Option.some.injEq] at h2; rw [← h2]; exact hv
        | some y0 =>
          simp only at h2
          by_cases hB : askB bf y0.2 v = true
          · rw [if_pos hB] at h2; simp only [Option.some.injEq] at h2; rw [← h2]; exact hv
          · rw [if_neg hB] at h2; exact h y2 h2
      · rw [if_neg hA] at h2; exact h y2 h2
  exact key l none hl (by simp) y h
theorem snocG (l : List Sg) (s : Sg) : imR ((l ++ [s]).map sgA) = imR (l.map sgA) ++ [(sgA s).map .im] := by simp [imR, imL]
def kidF (m : KM) (k : Int) : List Spn := (getK m k).getD []
attribute [local irreducible] W AX Run RunD AStep AOp AOpX AStB AStH AStG Fits PCall GCall PostG Post Stop
theorem walk_c (m : KM) (hI : ∀ y ∈ m, y.2.length ≤ 140737488355328) (hid : ∀ y ∈ m, ∀ z ∈ y.2, I64 z.tr ∧ I64 z.id) (F : Nat) (caps : List AV) (bf : Ev → Ev → Bool) (hbf : BfC F caps bf) :
    ∀ (n : Nat) (s : Spn) (lo cur : Ev) (q : List Sg), wkF bf (kidF m) n s lo cur = some q → I64 s.id → okE lo → okE cur → ∀ p : List Sg, p.length + q.length ≤ 2199023255552 →
      GCall Tryz.prog 44 1 (St.g [.c (.ptr 0 0), spT s, evT lo, evT cur] (wkO m F caps p) 2) (St.r (.t []) (wkO m F caps (p ++ q)) 2) := by
  intro n
  induction n with
  | zero => intro s lo cur q h; simp [wkF] at h
  | succ n ih =>
    intro s lo cur q hq hs hlo hcur p hpl
    have c37 := event_c
    have c46 := refOf_c s
    have ca := fun p => ask_c m F caps bf hbf p
    have cc := fun p cur hcur => choose_c m hI F caps bf hbf p s lo cur hs hlo hcur hid
    clear hbf
    simp only [spT, spA, evT, evA, refA, List.map] at c46 ⊢
    refine GCall.introG (nt := 77) (rs := []) Tryz.func44 rfl ⟨by kernel_rfl, by kernel_rfl, by kernel_rfl⟩ (by simp) ?_
    rintro ⟨P, w0, ok0, may, np, pblk⟩ rfl rfl
    simp only [go_sem]
    repeat' (first | refine W.seq fun K hK => ?_ | refine W.block ?_ | ((first | refine wR ?_ | refine wD ?_ | refine W.skip ?_ | refine W.exit ?_ | refine W.ret (Post.ret ?_) | refine aP ?_ | refine aF ?_ | refine aQ ?_); simp only [go_sem, reduceCtorEq]) | refine wT ?_ | refine wF ?_ | refine wC (fun h => ?_) (fun h => ?_) | refine iK ?_ | refine aI2 ?_ | (refine hK _ ?_; clear hK K) | clear hK K)
    refine W.loopF (T := fun x : Nat × Ev × List Sg × List Sg => { t := [(0, .c (.ptr 0 0)), (5, .c (.ptr 2 0)), (6, .c (.ptr 3 0)), (7, .c (.ptr 4 0))], h := wkO m F caps x.2.2.1 ++ [(2, .box 36 ((spA s).map .im)), (3, .box 52 ((evA lo).map .im)), (4, .box 52 ((evA x.2.1).map .im))], nx := 5, ex := [], nt := 77 })
      (Inv := fun x => wkF bf (kidF m) x.1 s lo x.2.1 = some x.2.2.2 ∧ x.2.2.1 ++ x.2.2.2 = p ++ q ∧ x.1 ≤ n + 1 ∧ okE x.2.1) (μ := fun x => x.1) (x0 := (n + 1, cur, p, q)) ?_ ⟨hq, rfl, Nat.le_refl _, hcur⟩ ?_
    · refine Fits.fit [(0, 0), (1, 1), (2, 2), (3, 3), (4, 4)] [0, 5, 6, 7] 5 rfl rfl ?_
      simp only [go_sem, evA, spA, List.map]
      exact Fits.rfl
    rintro ⟨n1, cur1, p1, q1⟩ ⟨hq1, he1, hn1, hok1⟩ KL hKL
    simp only at hq1 he1 hn1 hok1
    cases n1 with
    | zero => simp [wkF] at hq1
    | succ n1 =>
      have hpl1 : p1.length + q1.length = p.length + q.length := by
        have := congrArg List.length he1
        simpa using this
      have a0 := ca p1 lo cur1 hlo hok1
      simp only [spT, spA, evT, evA, List.map] at a0
      cases hA : askB bf lo cur1 with
      | false =>
        have hqn := wkF_no hq1 hA
        subst hqn
        rw [List.append_nil] at he1
        rw [hA] at a0
        simp only [evA, spA, List.map, List.cons_append, List.nil_append]
        clear hKL
        repeat' (first | refine W.seq fun K hK => ?_ | refine W.block ?_ | ((first | refine wR ?_ | refine wD ?_ | refine W.skip ?_ | refine W.exit ?_ | refine W.ret (Post.ret ?_) | refine aP ?_ | refine aF ?_ | refine aQ ?_); simp only [go_sem, reduceCtorEq]) | refine wT ?_ | refine wF ?_ | refine wC (fun h => ?_) (fun h => ?_) | refine iK ?_ | refine aI2 ?_ | (refine hK _ ?_; clear hK K) | clear hK K)
        refine AX.gcall [0, 1] rfl rfl (a0) (by simp only [go_sem, reduceCtorEq]) (by simp only [go_sem, reduceCtorEq]) rfl rfl (by simp only [go_sem, Obj.owns]) rfl (by simp only [go_sem, Obj.owns]) rfl rfl ?_
        simp only [go_sem, reduceCtorEq]
        repeat' (first | refine W.seq fun K hK => ?_ | refine W.block ?_ | ((first | refine wR ?_ | refine wD ?_ | refine W.skip ?_ | refine W.exit ?_ | refine W.ret (Post.ret ?_) | refine aP ?_ | refine aF ?_ | refine aQ ?_); simp only [go_sem, reduceCtorEq]) | refine wT ?_ | refine wF ?_ | refine wC (fun h => ?_) (fun h => ?_) | refine iK ?_ | refine aI2 ?_ | (refine hK _ ?_; clear hK K) | clear hK K)
        refine PostG.normal (Fits.fit [(0, 0), (1, 1)] [] 2 rfl rfl Fits.rfl) rfl rfl ?_
        simp only [St.r, go_sem, he1]
      | true =>
        rw [hA] at a0
        have c1 := cc p1 cur1 hok1
        clear cc
        cases hC : chooseF bf (kidF m s.id) lo cur1 with
        | none =>
          have hqn := wkF_none hq1 hA hC
          subst hqn
          have hC2 : chooseF bf ((getK m s.id).getD []) lo cur1 = none := hC
          rw [hC2] at c1
          have hb : p1.length + 1 ≤ 2199023255552 := by rw [← hpl1] at hpl; simpa using hpl
          simp only [spT, spA, evT, evA, List.map, chT, chS, chE, zSpn, Option.isSome_none] at c1
          simp only [evA, spA, List.map, List.cons_append, List.nil_append]
          clear hKL ca c37 ih hq1 hC hC2
          repeat' (first | refine W.seq fun K hK => ?_ | refine W.block ?_ | ((first | refine wR ?_ | refine wD ?_ | refine W.skip ?_ | refine W.exit ?_ | refine W.ret (Post.ret ?_) | refine aP ?_ | refine aF ?_ | refine aQ ?_); simp only [go_sem, reduceCtorEq]) | refine wT ?_ | refine wF ?_ | refine wC (fun h => ?_) (fun h => ?_) | refine iK ?_ | refine aI2 ?_ | (refine hK _ ?_; clear hK K) | clear hK K)
          refine AX.gcall [0, 1] rfl rfl (a0) (by simp only [go_sem, reduceCtorEq]) (by simp only [go_sem, reduceCtorEq]) rfl rfl (by simp only [go_sem, Obj.owns]) rfl (by simp only [go_sem, Obj.owns]) rfl rfl ?_
          simp only [go_sem, reduceCtorEq]
          repeat' (first | refine W.seq fun K hK => ?_ | refine W.block ?_ | ((first | refine wR ?_ | refine wD ?_ | refine W.skip ?_ | refine W.exit ?_ | refine W.ret (Post.ret ?_) | refine aP ?_ | refine aF ?_ | refine aQ ?_); simp only [go_sem, reduceCtorEq]) | refine wT ?_ | refine wF ?_ | refine wC (fun h => ?_) (fun h => ?_) | refine iK ?_ | refine aI2 ?_ | (refine hK _ ?_; clear hK K) | clear hK K)
          refine AX.gcall [0, 1] rfl rfl (c1) (by simp only [go_sem, reduceCtorEq]) (by simp only [go_sem, reduceCtorEq]) rfl rfl (by simp only [go_sem, Obj.owns]) rfl (by simp only [go_sem, Obj.owns]) rfl rfl ?_
          simp only [go_sem, reduceCtorEq]
          repeat' (first | refine W.seq fun K hK => ?_ | refine W.block ?_ | ((first | refine wR ?_ | refine wD ?_ | refine W.skip ?_ | refine W.exit ?_ | refine W.ret (Post.ret ?_) | refine aP ?_ | refine aF ?_ | refine aQ ?_); simp only [go_sem, reduceCtorEq, spA, evA, List.map, List.cons_append, List.nil_append, imR_len, List.length_map]) | refine wT ?_ | refine wF ?_ | refine wC (fun h => ?_) (fun h => ?_) | refine iK ?_ | refine aI2 ?_ | (refine hK _ ?_; clear hK K) | clear hK K)
          refine W.ret (PostG.ret (Fits.fit [(0, 0), (41, 1)] [] 2 rfl rfl Fits.rfl) rfl rfl ?_)
          simp only [St.r, go_sem, ← he1, wkO, snocG, sgA, List.map]
        | some y =>
          obtain ⟨c, v⟩ := y
          obtain ⟨q2, q3, hw1, hw2, hqn⟩ := wkF_some hq1 hA hC
          have hC2 : chooseF bf ((getK m s.id).getD []) lo cur1 = some (c, v) := hC
          obtain ⟨y, hy, hcy⟩ := getK_mem (chooseF_mem hC2)
          have hcid := (hid y hy c hcy).2
          have hct : okE (evOf c false) := hid y hy c hcy
          have hvok : okE v := chooseF_ok (l := (getK m s.id).getD []) (fun z hz => by
            obtain ⟨y, hy, h⟩ := getK_mem hz
            exact hid y hy z h) hok1 hC2
          rw [hC2] at c1
          obtain ⟨p2, hp2⟩ : ∃ p2, p2 = p1 ++ (if v = cur1 then [] else [⟨(s.tr, s.id), v, cur1⟩]) := ⟨_, rfl⟩
          have he2 : p2 ++ q2 ++ q3 = p ++ q := by rw [← he1, hqn, hp2]; simp
          have hl2 : p2.length + q2.length + q3.length = p.length + q.length := by
            have := congrArg List.length he2
            simp only [List.length_append] at this
            omega
          have hb2 : p2.length + q2.length ≤ 2199023255552 := by omega
          have hb : p2.length ≤ 2199023255552 := by omega
          have a8 := ca p2 lo (evOf c false) hlo hct
          have cE := c37 c false
          have hG := eqG52
          have hE := fun w => eqEv v.tr v.id cur1.tr cur1.id v.en cur1.en w
          simp only [evEq] at hE
          simp only [spT, spA, evT, evA, List.map, chT, chS, chE, zSpn, Option.isSome_some] at c1
          simp only [evA, spA, List.map, List.cons_append, List.nil_append]
          obtain ⟨A8, hA8⟩ : ∃ A, A = askB bf lo (evOf c false) := ⟨_, rfl⟩
          rw [← hA8] at a8 hw1 hw2
          simp only [spT, spA, evT, evA, evOf, List.map] at a8 cE
          clear ca c37 hq1 hC hC2 hI hid hy hcy hqn hA8
          repeat' (first | refine W.seq fun K hK => ?_ | refine W.block ?_ | ((first | refine wR ?_ | refine wD ?_ | refine W.skip ?_ | refine W.exit ?_ | refine W.ret (Post.ret ?_) | refine aP ?_ | refine aF ?_ | refine aQ ?_); simp only [go_sem, reduceCtorEq]) | refine wT ?_ | refine wF ?_ | refine wC (fun h => ?_) (fun h => ?_) | refine iK ?_ | refine aI2 ?_ | (refine hK _ ?_; clear hK K) | clear hK K)
          refine AX.gcall [0, 1] rfl rfl (a0) (by simp only [go_sem, reduceCtorEq]) (by simp only [go_sem, reduceCtorEq]) rfl rfl (by simp only [go_sem, Obj.owns]) rfl (by simp only [go_sem, Obj.owns]) rfl rfl ?_
          simp only [go_sem, reduceCtorEq]
          repeat' (first | refine W.seq fun K hK => ?_ | refine W.block ?_ | ((first | refine wR ?_ | refine wD ?_ | refine W.skip ?_ | refine W.exit ?_ | refine W.ret (Post.ret ?_) | refine aP ?_ | refine aF ?_ | refine aQ ?_); simp only [go_sem, reduceCtorEq]) | refine wT ?_ | refine wF ?_ | refine wC (fun h => ?_) (fun h => ?_) | refine iK ?_ | refine aI2 ?_ | (refine hK _ ?_; clear hK K) | clear hK K)
          refine AX.gcall [0, 1] rfl rfl (c1) (by simp only [go_sem, reduceCtorEq]) (by simp only [go_sem, reduceCtorEq]) rfl rfl (by simp only [go_sem, Obj.owns]) rfl (by simp only [go_sem, Obj.owns]) rfl rfl ?_
          simp only [go_sem, reduceCtorEq]
          repeat' (first | refine W.stop (id := 6) ?_ | refine W.seq fun K hK => ?_ | refine W.block ?_ | ((first | refine wR ?_ | refine wD ?_ | refine W.skip ?_ | refine W.exit ?_ | refine W.ret (Post.ret ?_) | refine aP ?_ | refine aF ?_ | refine aQ ?_); simp only [go_sem, reduceCtorEq, spA, evA, List.map, List.cons_append, List.nil_append, Bool.not_true, Bool.not_false, imR_len, List.length_map]) | refine wT ?_ | refine wF ?_ | refine wC (fun h => ?_) (fun h => ?_) | refine iK ?_ | refine aI2 ?_ | (refine hK _ ?_; clear hK K) | clear hK K)
          refine Stop.out ?_
          rename_i K9 hK9o
          have hK9 : ∀ s1, Fits { P := Tryz.prog, w0 := w0, ok0 := ok0, may := may, np := 1, pblk := pblk } s1 { t := [(0, .c (.ptr 0 0)), (5, .c (.ptr 2 0)), (6, .c (.ptr 3 0)), (7, .c (.ptr 4 0)), (8, .c (.ptr 5 0)), (9, .c (.ptr 6 0))], h := wkO m F caps p2 ++ [(2, .box 36 ((spA s).map .im)), (3, .box 52 ((evA lo).map .im)), (4, .box 52 ((evA cur1).map .im)), (5, .box 36 ((spA c).map .im)), (6, .box 52 ((evA v).map .im))], nx := 7, ex := [], nt := 77 } → K9 s1 := by
            intro s1 hf
            refine hK9o _ (W.fits hf ?_)
            clear hf hK K hK9o a0 c1 c46 hE
            simp only [spA, evA, List.map, List.cons_append, List.nil_append, Bool.not_true, Bool.not_false, imR_len, List.length_map]
            repeat' (first | refine W.stop (id := 9) ?_ | refine W.seq fun K hK => ?_ | refine W.block ?_ | ((first | refine wR ?_ | refine wD ?_ | refine W.skip ?_ | refine W.exit ?_ | refine W.ret (Post.ret ?_) | refine aP ?_ | refine aF ?_ | refine aQ ?_); simp only [go_sem, reduceCtorEq]) | refine wT ?_ | refine wF ?_ | refine wC (fun h => ?_) (fun h => ?_) | refine iK ?_ | refine aI2 ?_ | (refine hK _ ?_; clear hK K) | clear hK K)
            refine Stop.out ?_
            rename_i K12 hK12o
            obtain ⟨b, hb⟩ : ∃ b, b = if A8 = true then evOf c false else lo := ⟨_, rfl⟩
            have hbo : okE b := by
              rw [hb]
              split
              · exact hct
              · exact hlo
            rw [← hb] at hw1 hw2
            have hK12 : ∀ s1, Fits { P := Tryz.prog, w0 := w0, ok0 := ok0, may := may, np := 1, pblk := pblk } s1 { t := [(0, .c (.ptr 0 0)), (5, .c (.ptr 2 0)), (6, .c (.ptr 3 0)), (7, .c (.ptr 4 0)), (8, .c (.ptr 5 0)), (9, .c (.ptr 6 0)), (11, .c (.ptr 7 0))], h := wkO m F caps p2 ++ [(2, .box 36 ((spA s).map .im)), (3, .box 52 ((evA lo).map .im)), (4, .box 52 ((evA cur1).map .im)), (5, .box 36 ((spA c).map .im)), (6, .box 52 ((evA v).map .im)), (7, .box 52 ((evA b).map .im))], nx := 8, ex := [], nt := 77 } → K12 s1 := by
              intro s1 hf
              refine hK12o _ (W.fits hf ?_)
              clear hf hK K hK12o a8 cE
              have r1 := ih c b v q2 (wkF_mono hw1 (by omega)) hcid hbo hvok p2 hb2
              simp only [spT, spA, evT, evA, List.map] at r1
              simp only [spA, evA, List.map, List.cons_append, List.nil_append, Bool.not_true, Bool.not_false, imR_len, List.length_map]
              repeat' (first | refine W.seq fun K hK => ?_ | refine W.block ?_ | ((first | refine wR ?_ | refine wD ?_ | refine W.skip ?_ | refine W.exit ?_ | refine W.ret (Post.ret ?_) | refine aP ?_ | refine aF ?_ | refine aQ ?_); simp only [go_sem, reduceCtorEq]) | refine wT ?_ | refine wF ?_ | refine wC (fun h => ?_) (fun h => ?_) | refine iK ?_ | refine aI2 ?_ | (refine hK _ ?_; clear hK K) | clear hK K)
              refine AX.gcall [0, 1] rfl rfl (r1) (by simp only [go_sem, reduceCtorEq]) (by simp only [go_sem, reduceCtorEq]) rfl rfl (by simp only [go_sem, Obj.owns]) rfl (by simp only [go_sem, Obj.owns]) rfl rfl ?_
              simp only [go_sem, reduceCtorEq]
              repeat' (first | refine W.seq fun K hK => ?_ | refine W.block ?_ | ((first | refine wR ?_ | refine wD ?_ | refine W.skip ?_ | refine W.exit ?_ | refine W.ret (Post.ret ?_) | refine aP ?_ | refine aF ?_ | refine aQ ?_); simp only [go_sem, reduceCtorEq]) | refine wT ?_ | refine wF ?_ | refine wC (fun h => ?_) (fun h => ?_) | refine iK ?_ | refine aI2 ?_ | (refine hK _ ?_; clear hK K) | clear hK K)
              refine hKL.to (n1, b, p2 ++ q2, q3) ⟨hw2, by simp only; exact he2, by simp only; omega, hbo⟩ (by simp only; omega) (Fits.fit [(0, 0), (12, 1), (2, 2), (3, 3), (4, 4)] [0, 5, 6, 7] 5 rfl rfl ?_)
              simp only [go_sem, evA, spA, evOf, List.map]
              exact Fits.rfl
            clear hK12o hKL hw1 hw2 ih
            cases A8 with
            | false =>
              simp only [Bool.false_eq_true, if_false] at hb
              subst hb
              repeat' (first | refine W.seq fun K hK => ?_ | refine W.block ?_ | ((first | refine wR ?_ | refine wD ?_ | refine W.skip ?_ | refine W.exit ?_ | refine W.ret (Post.ret ?_) | refine aP ?_ | refine aF ?_ | refine aQ ?_); simp only [go_sem, reduceCtorEq]) | refine wT ?_ | refine wF ?_ | refine wC (fun h => ?_) (fun h => ?_) | refine iK ?_ | refine aI2 ?_ | (refine hK _ ?_; clear hK K) | clear hK K)
              refine AX.gcall [0, 1] rfl rfl (a8) (by simp only [go_sem, reduceCtorEq]) (by simp only [go_sem, reduceCtorEq]) rfl rfl (by simp only [go_sem, Obj.owns]) rfl (by simp only [go_sem, Obj.owns]) rfl rfl ?_
              simp only [go_sem, reduceCtorEq]
              repeat' (first | refine W.seq fun K hK => ?_ | refine W.block ?_ | ((first | refine wR ?_ | refine wD ?_ | refine W.skip ?_ | refine W.exit ?_ | refine W.ret (Post.ret ?_) | refine aP ?_ | refine aF ?_ | refine aQ ?_); simp only [go_sem, reduceCtorEq]) | refine wT ?_ | refine wF ?_ | refine wC (fun h => ?_) (fun h => ?_) | refine iK ?_ | refine aI2 ?_ | (refine hK _ ?_; clear hK K) | clear hK K)
              refine hK12 _ (Fits.fit [(0, 0), (1, 1), (2, 2), (3, 3), (4, 4), (5, 5), (6, 6), (8, 7)] [0, 5, 6, 7, 8, 9, 11] 8 rfl rfl ?_)
              simp only [go_sem, evA, spA, evOf, List.map]
              exact Fits.rfl
            | true =>
              simp only [if_true] at hb
              subst hb
              repeat' (first | refine W.seq fun K hK => ?_ | refine W.block ?_ | ((first | refine wR ?_ | refine wD ?_ | refine W.skip ?_ | refine W.exit ?_ | refine W.ret (Post.ret ?_) | refine aP ?_ | refine aF ?_ | refine aQ ?_); simp only [go_sem, reduceCtorEq]) | refine wT ?_ | refine wF ?_ | refine wC (fun h => ?_) (fun h => ?_) | refine iK ?_ | refine aI2 ?_ | (refine hK _ ?_; clear hK K) | clear hK K)
              refine AX.gcall [0, 1] rfl rfl (a8) (by simp only [go_sem, reduceCtorEq]) (by simp only [go_sem, reduceCtorEq]) rfl rfl (by simp only [go_sem, Obj.owns]) rfl (by simp only [go_sem, Obj.owns]) rfl rfl ?_
              simp only [go_sem, reduceCtorEq]
              repeat' (first | refine W.seq fun K hK => ?_ | refine W.block ?_ | ((first | refine wR ?_ | refine wD ?_ | refine W.skip ?_ | refine W.exit ?_ | refine W.ret (Post.ret ?_) | refine aP ?_ | refine aF ?_ | refine aQ ?_); simp only [go_sem, reduceCtorEq]) | refine wT ?_ | refine wF ?_ | refine wC (fun h => ?_) (fun h => ?_) | refine iK ?_ | refine aI2 ?_ | (refine hK _ ?_; clear hK K) | clear hK K)
              refine hK12 _ (Fits.fit [(0, 0), (1, 1), (2, 2), (3, 3), (4, 4), (5, 5), (6, 6), (8, 7)] [0, 5, 6, 7, 8, 9, 11] 8 rfl rfl ?_)
              simp only [go_sem, evA, spA, evOf, List.map]
              exact Fits.rfl
          clear hK9o hKL ih hw1 hw2 a8 cE a0 c1
          by_cases hv : v = cur1
          · rw [decide_eq_true hv] at hE
            rw [if_pos hv, List.append_nil] at hp2
            repeat' (first | refine W.seq fun K hK => ?_ | refine W.block ?_ | ((first | refine wR ?_ | refine wD ?_ | refine W.skip ?_ | refine W.exit ?_ | refine W.ret (Post.ret ?_) | refine aP ?_ | refine aF ?_ | refine aQ ?_); simp only [go_sem, reduceCtorEq, spA, evA, List.map, List.cons_append, List.nil_append, Bool.not_true, Bool.not_false, imR_len, List.length_map]) | refine wT ?_ | refine wF ?_ | refine wC (fun h => ?_) (fun h => ?_) | refine iK ?_ | refine aI2 ?_ | (refine hK _ ?_; clear hK K) | clear hK K)
            refine hK9 _ (Fits.fit [(0, 0), (1, 1), (2, 2), (3, 3), (4, 4), (18, 5), (19, 6)] [0, 5, 6, 7, 8, 9] 7 rfl rfl ?_)
            simp only [go_sem, evA, spA, List.map, hp2]
            exact Fits.rfl
          · rw [decide_eq_false hv] at hE
            rw [if_neg hv] at hp2
            have hb3 : p1.length + 1 ≤ 2199023255552 := by
              have := congrArg List.length hp2
              simp only [List.length_append, List.length_singleton] at this
              omega
            repeat' (first | refine W.seq fun K hK => ?_ | refine W.block ?_ | ((first | refine wR ?_ | refine wD ?_ | refine W.skip ?_ | refine W.exit ?_ | refine W.ret (Post.ret ?_) | refine aP ?_ | refine aF ?_ | refine aQ ?_); simp only [go_sem, reduceCtorEq, spA, evA, List.map, List.cons_append, List.nil_append, Bool.not_true, Bool.not_false, imR_len, List.length_map]) | refine wT ?_ | refine wF ?_ | refine wC (fun h => ?_) (fun h => ?_) | refine iK ?_ | refine aI2 ?_ | (refine hK _ ?_; clear hK K) | clear hK K)
            refine hK9 _ (Fits.fit [(0, 0), (44, 1), (2, 2), (3, 3), (4, 4), (18, 5), (19, 6)] [0, 5, 6, 7, 8, 9] 7 rfl rfl ?_)
            simp only [go_sem, evA, spA, List.map, hp2, snocG, sgA]
            exact Fits.rfl
end Go.Proofs.YtaaflhmfhnfjhaaGreat
namespace Go.Proofs.YtaaflhmfhnfjhaaGreat
open Go.RowKit Go.Exe
/-! ### Reverse -/
def sg0 : Sg := ⟨(0, 0), ⟨0, 0, false⟩, ⟨0, 0, false⟩⟩
def revN (l : List Sg) (i : Nat) : List Sg := (List.range l.length).map fun k => if k < i ∨ l.length - i ≤ k then l.getD (l.length - 1 - k) sg0 else l.getD k sg0
theorem revN_len (l : List Sg) (i : Nat) : (revN l i).length = l.length := by simp [revN]
theorem revN_get (l : List Sg) (i k : Nat) (h : k < l.length) : (revN l i)[k]? = some (if k < i ∨ l.length - i ≤ k then l.getD (l.length - 1 - k) sg0 else l.getD k sg0) := by
  simp [revN, h]
theorem getD_some {l : List Sg} {k : Nat} (h : k < l.length) : l[k]? = some (l.getD k sg0) := by simp [List.getD_eq_getElem?_getD, h]
theorem revN_0 (l : List Sg) : revN l 0 = l := by
  refine List.ext_getElem? fun k => ?_
  by_cases h : k < l.length
  · rw [revN_get l 0 k h, if_neg (by omega), getD_some h]
  · rw [List.getElem?_eq_none (by rw [revN_len]; omega), List.getElem?_eq_none (by omega)]
theorem revN_end (l : List Sg) (i : Nat) (hi : l.length ≤ 2 * i + 1) (hi2 : 2 * i ≤ l.length + 1) : revN l i = l.reverse := by
  refine List.ext_getElem? fun k => ?_
  by_cases h : k < l.length
  · rw [revN_get l i k h, List.getElem?_reverse h, getD_some (by omega)]
    split
    · rfl
    · have : l.length - 1 - k = k := by omega
      rw [this]
  · rw [List.getElem?_eq_none (by rw [revN_len]; omega), List.getElem?_eq_none (by simp; omega)]
theorem revN_step (l : List Sg) (i : Nat) (h : i < l.length - 1 - i) : ((revN l i).set i (l.getD (l.length - 1 - i) sg0)).set (l.length - 1 - i) (l.getD i sg0) = revN l (i + 1) := by
  refine List.ext_getElem? fun k => ?_
  by_cases hk : k < l.length
  · rw [revN_get l (i + 1) k hk]
    by_cases h1 : k = l.length - 1 - i
    · subst h1
      rw [List.getElem?_set_self (by simp [revN_len]; omega), if_pos (by omega)]
      congr 2; omega
    · rw [List.getElem?_set_ne (by omega)]
      by_cases h2 : k = i
      · subst h2
        rw [List.getElem?_set_self (by rw [revN_len]; omega), if_pos (by omega)]
      · rw [List.getElem?_set_ne (by omega), revN_get l i k hk]
        have : (k < i ∨ l.length - i ≤ k) ↔ (k < i + 1 ∨ l.length - (i + 1) ≤ k) := by omega
        simp only [this]
  · rw [List.getElem?_eq_none (by simp [revN_len]; omega), List.getElem?_eq_none (by rw [revN_len]; omega)]
theorem imG_set {l : List Sg} {i : Nat} {x : Sg} : (imR (l.map sgA)).set i ((sgA x).map .im) = imR ((l.set i x).map sgA) := by simp [imR, imL, List.map_set]
theorem imG_at {l : List Sg} {i : Nat} {x : Sg} (h : l[i]? = some x) : (imR (l.map sgA))[i]? = some ((sgA x).map .im) := by simp [imR, imL, h]
attribute [local irreducible] W AX Run RunD AStep AOp AOpX AStB AStH AStG Fits PCall GCall PostG Post Stop
theorem reverse_c (l : List Sg) (hl : l.length ≤ 2199023255552) : GCall Tryz.prog 45 1 (St.g [.c (.ref 0)] [(0, .row 66 (imR (l.map sgA)))] 1) (St.r (.t []) [(0, .row 66 (imR (l.reverse.map sgA)))] 1) := by
  refine GCall.introG (nt := 28) (rs := []) Tryz.func45 rfl ⟨by kernel_rfl, by kernel_rfl, by kernel_rfl⟩ (by simp) ?_
  rintro ⟨P, w0, ok0, may, np, pblk⟩ rfl rfl
  simp only [go_sem]
  repeat' (first | refine W.seq fun K hK => ?_ | refine W.block ?_ | ((first | refine wR ?_ | refine wD ?_ | refine W.skip ?_ | refine W.exit ?_ | refine W.ret (Post.ret ?_) | refine aP ?_ | refine aF ?_); simp only [go_sem, reduceCtorEq, imR_len, List.length_map]) | refine wT ?_ | refine wF ?_ | refine wC (fun h => ?_) (fun h => ?_) | refine iK ?_ | refine aI2 ?_ | (refine hK _ ?_; clear hK K) | clear hK K)
  have hw0 : IntKind.i64.wrap ((l.length : Int) - 1) = (l.length : Int) - 1 := w64 (by omega) (by omega)
  refine W.loopF (T := fun i : Nat => { t := [(0, .c (.ref 0)), (2, ft (.int .i64 (i : Nat))), (3, ft (.int .i64 ((l.length : Int) - 1 - i)))], h := [(0, .row 66 (imR ((revN l i).map sgA)))], nx := 1, ex := [], nt := 28 })
    (Inv := fun i => 2 * i ≤ l.length + 1) (μ := fun i => l.length + 1 - i) (x0 := 0) ?_ (by omega) ?_
  · refine Fits.fit [(0, 0)] [0, 2, 3] 1 rfl rfl ?_
    simp only [go_sem, hw0, revN_0, Int.natCast_zero, Int.sub_zero]
    exact Fits.rfl
  rintro i hi KL hKL
  by_cases hlt : i < l.length - 1 - i
  · have e1 : decide ((i : Int) < (l.length : Int) - 1 - i) = true := by simp; omega
    have hj : ((l.length : Int) - 1 - i) = ((l.length - 1 - i : Nat) : Int) := by omega
    obtain ⟨j, hj2⟩ : ∃ j, j = l.length - 1 - i := ⟨_, rfl⟩
    rw [hj, ← hj2] at e1
    have hgi : (revN l i)[i]? = some (l.getD i sg0) := by rw [revN_get l i i (by omega), if_neg (by omega)]
    have hgj : (revN l i)[j]? = some (l.getD j sg0) := by rw [revN_get l i j (by omega), if_neg (by omega)]
    have hst := revN_step l i hlt
    rw [← hj2] at hst
    have hrl := revN_len l i
    have e2 : decide (i < l.length) = true := by simp; omega
    have e3 : decide (j < l.length) = true := by simp; omega
    have hgi2 := imG_at hgi
    have hgj2 := imG_at hgj
    have hgj3 := imG_at (l := (revN l i).set i (l.getD j sg0)) (i := j) (x := l.getD j sg0) (by rw [List.getElem?_set_ne (by omega)]; exact hgj)
    have hw1 := w64s i (by omega)
    have hw2 : IntKind.i64.wrap ((j : Int) - 1) = (l.length : Int) - 1 - ((i + 1 : Nat) : Int) := by rw [w64 (by omega) (by omega)]; omega
    generalize l.getD i sg0 = x at *
    generalize l.getD j sg0 = y at *
    have hs1 := imG_set (l := revN l i) (i := i) (x := y)
    have hs2 := imG_set (l := (revN l i).set i y) (i := j) (x := x)
    rw [hst] at hs2
    simp only [sgA, List.map] at hgi2 hgj2 hgj3 hs1 hs2
    simp only [hj, ← hj2]
    repeat' (first | refine W.seq fun K hK => ?_ | refine W.block ?_ | ((first | refine wR ?_ | refine wD ?_ | refine W.skip ?_ | refine W.exit ?_ | refine W.ret (Post.ret ?_) | refine aP ?_ | refine aF ?_); simp only [go_sem, reduceCtorEq, imR_len, List.length_map, List.length_set, hrl, e1, e2, e3, hgi2, hgj2, hgj3, hs1, hs2, hw1, hw2]) | refine wT ?_ | refine wF ?_ | refine wC (fun h => ?_) (fun h => ?_) | refine iK ?_ | refine aI2 ?_ | (refine hK _ ?_; clear hK K) | clear hK K)
    refine hKL.to (i + 1) (by omega) (by omega) (Fits.fit [(0, 0)] [0, 2, 3] 1 rfl rfl ?_)
    simp only [go_sem, hs1, hs2, rnCss_im]
    exact Fits.rfl
  · have e1 : decide ((i : Int) < (l.length : Int) - 1 - i) = false := by simp; omega
    clear hKL
    repeat' (first | refine W.seq fun K hK => ?_ | refine W.block ?_ | ((first | refine wR ?_ | refine wD ?_ | refine W.skip ?_ | refine W.exit ?_ | refine W.ret (Post.ret ?_) | refine aP ?_ | refine aF ?_); simp only [go_sem, reduceCtorEq, e1]) | refine wT ?_ | refine wF ?_ | refine wC (fun h => ?_) (fun h => ?_) | refine iK ?_ | refine aI2 ?_ | (refine hK _ ?_; clear hK K) | clear hK K)
    refine PostG.normal (Fits.fit [(0, 0)] [] 1 rfl rfl Fits.rfl) rfl rfl ?_
    simp only [St.r, go_sem, revN_end l i (by omega) hi]
end Go.Proofs.YtaaflhmfhnfjhaaGreat
namespace Go.Proofs.YtaaflhmfhnfjhaaGreat
open Go.RowKit Go.Exe
/-! ### Walk -/
def WalkIs (l : List Spn) (root : Int) (bf : Ev → Ev → Bool) (r : Int × List Sg) : Prop :=
  if 256 < l.length then r = (6, []) else
  match spId l root with
  | none => r = (10, [])
  | some s => if (cycN (ofS l s.tr) (ofS l s.tr).length).contains root then r = (35, []) else
    ∃ n q, wkF bf (kidF (kidM l)) n s (evOf s false) (evOf s true) = some q ∧ q.length ≤ 2199023255552 ∧ r = (0, q.reverse)
abbrev pthT (r : Int × List Sg) : TV := .t [(false, [.im (.sl 66 (r.2.map sgA))]), (false, [fl (.int .i64 r.1)])]
theorem walk_nil {m : KM} {F : Nat} {caps : List AV} {args : List TV} {q : St} (h : GCall Tryz.prog 44 1 (St.g args (wkO m F caps []) 2) q) : GCall Tryz.prog 44 1 (St.g args [(0, .box 109 [.im (.mp 3 (kEA m)), .im (.fn F caps), fl (.int .i64 0), fl (.slice none 0 0)])] 1) q := by
  refine h.fits ?_
  rintro ⟨P, w0, ok0, may, np, pblk⟩ rfl rfl
  simp only [St.g]
  refine Fits.adoptB 0 109 _ 3 1 66 rfl rfl rfl rfl tE66 rfl ?_
  simp only [go_sem, List.set_cons_zero, List.set_cons_succ, List.map_nil, imR_nil]
  exact Fits.swap rfl Fits.rfl
theorem spId_mem {l : List Spn} {id : Int} {s : Spn} (h : spId l id = some s) : s ∈ l ∧ s.id = id := by
  have h2 := List.find?_some h
  exact ⟨List.mem_of_find?_eq_some h, by simpa using h2⟩
theorem kidM_mem {l : List Spn} {y : Int × List Spn} (hy : y ∈ kidM l) {z : Spn} (hz : z ∈ y.2) : z ∈ l := by
  have key : ∀ (xs : List Spn) (m : KM), (∀ y ∈ m, ∀ z ∈ y.2, z ∈ l) → (∀ x ∈ xs, x ∈ l) → ∀ y ∈ xs.foldl putK m, ∀ z ∈ y.2, z ∈ l := by
    intro xs
    induction xs with
    | nil => exact fun m h _ => h
    | cons x xs ih =>
      intro m h hx
      refine ih _ ?_ (fun z hz => hx z (by simp [hz]))
      have hxl := hx x (by simp)
      clear ih hx
      induction m with
      | nil => intro y hy z hz; simp [putK] at hy; subst hy; simp at hz; subst hz; exact hxl
      | cons u r ihr =>
        intro y hy z hz
        unfold putK at hy
        split at hy
        · rcases List.mem_cons.1 hy with rfl | hy
          · rcases List.mem_append.1 hz with hz | hz
            · exact h u (by simp) z hz
            · simp at hz; subst hz; exact hxl
          · exact h y (by simp [hy]) z hz
        · rcases List.mem_cons.1 hy with rfl | hy
          · exact h y (by simp) z hz
          · exact ihr (fun y hy => h y (by simp [hy])) y hy z hz
  refine key _ [] (by simp) (fun x hx => ?_) y hy z hz
  have := List.mem_of_mem_take (List.mem_filter.1 hx).1
  exact (srtId_perm l).mem_iff.1 this
theorem f1_103_4 : F1 Tryz.prog 103 4 4 := ⟨_, _, rfl, rfl, rfl, fun w => by kernel_rfl⟩
theorem errP {f : Nat} {args : List TV} {e : Int} (h : PCall Tryz.prog f args (.t [(false, [fl (.slice none 0 0)]), (false, [fl (.int .i64 e)])])) : PCall Tryz.prog f args (pthT (e, [])) :=
  PCall.conv (args' := args) h (Al.refl (fun _ => TLe.rfl) _) (TLe.t (Al.cons ⟨rfl, Al.cons CLe.nil Al.nil⟩ (Al.cons ⟨rfl, Al.cons CLe.rfl Al.nil⟩ Al.nil)))
attribute [local irreducible] W AX Run RunD AStep AOp AOpX AStB AStH AStG Fits PCall GCall PostG Post Stop
theorem walkTop_c (c53 : SortC Tryz.prog 53 14) (c71 : SortI Tryz.prog 71) (g85 : GrowC Tryz.prog 85 3 1 8) (l : List Spn) (root : Int) (F : Nat) (caps : List AV) (bf : Ev → Ev → Bool) (hbf : BfC F caps bf)
    (hnd : (idsOf l).Nodup) (hI : ∀ s ∈ l, I64 s.id ∧ I64 s.pa) (hT : ∀ s ∈ l, I64 s.tr) (hO : ∀ t, (idsOf (ofS l t)).Nodup ∧ ∀ s ∈ ofS l t, I64 s.id ∧ I64 s.pa) (r : Int × List Sg) (hr : WalkIs l root bf r) :
    PCall Tryz.prog 16 [spsT l, ft (.int .i64 root), .c (.im (.fn F caps))] (pthT r) := by
  have c40 := find_c l root
  have c37 := event_c
  have hF := f1_103_4
  unfold WalkIs at hr
  by_cases h256 : 256 < l.length
  · rw [if_pos h256] at hr
    subst hr
    refine errP ?_
    have e1 : decide ((l.length : Int) > 256) = true := by simp; omega
    refine PCall.intro (nt := 59) (rs := [.tmp 6, .tmp 7]) Tryz.func16 rfl ⟨by kernel_rfl, by kernel_rfl, by kernel_rfl⟩ (by simp) ?_
    rintro ⟨P, w0, ok0, may, np, pblk⟩ rfl rfl
    repeat' (first | refine W.seq fun K hK => ?_ | refine W.block ?_ | ((first | refine wR ?_ | refine wD ?_ | refine W.skip ?_ | refine W.exit ?_ | refine W.ret (Post.ret ?_) | refine aP ?_ | refine aF ?_ | refine aL ?_ | refine aU (hnn := by simp only [go_sem, reduceCtorEq, List.length_map, e1]) ?_ | refine aM ?_ | refine aN ?_ | refine aR ?_ | refine aD ?_); simp only [go_sem, reduceCtorEq, List.length_map, e1]) | refine wT ?_ | refine wF ?_ | refine wC (fun h => ?_) (fun h => ?_) | refine iK ?_ | refine aI2 ?_ | (refine hK _ ?_; clear hK K) | clear hK K)
  rw [if_neg h256] at hr
  have e1 : decide ((l.length : Int) > 256) = false := by simp; omega
  cases hs : spId l root with
  | none =>
    rw [hs] at hr
    simp only at hr
    subst hr
    refine errP ?_
    unfold findT at c40
    rw [hs] at c40
    simp only [zSpn] at c40
    refine PCall.intro (nt := 59) (rs := [.tmp 6, .tmp 7]) Tryz.func16 rfl ⟨by kernel_rfl, by kernel_rfl, by kernel_rfl⟩ (by simp) ?_
    rintro ⟨P, w0, ok0, may, np, pblk⟩ rfl rfl
    repeat' (first | refine W.seq fun K hK => ?_ | refine W.block ?_ | ((first | refine wR ?_ | refine wD ?_ | refine W.skip ?_ | refine W.exit ?_ | refine W.ret (Post.ret ?_) | refine aP ?_ | refine aF ?_ | refine aL ?_ | refine aU (hnn := by simp only [go_sem, reduceCtorEq, List.length_map, e1]) ?_ | refine aM ?_ | refine aN ?_ | refine aR ?_ | refine aD ?_); simp only [go_sem, reduceCtorEq, List.length_map, e1]) | refine wT ?_ | refine wF ?_ | refine wC (fun h => ?_) (fun h => ?_) | refine iK ?_ | refine aI2 ?_ | (refine hK _ ?_; clear hK K) | clear hK K)
  | some s =>
    rw [hs] at hr
    simp only at hr
    obtain ⟨hsl, hsid⟩ := spId_mem hs
    have ct := build_c c53 c71 g85 l s.tr (hO s.tr).1 (hO s.tr).2
    unfold findT at c40
    rw [hs] at c40
    simp only [spA, List.map] at c40
    simp only [trT, trA, treeOf, List.map] at ct
    have cc := contains_c (cycN (ofS l s.tr) (ofS l s.tr).length) root
    by_cases hcy : (cycN (ofS l s.tr) (ofS l s.tr).length).contains root = true
    · rw [if_pos hcy] at hr
      subst hr
      rw [hcy] at cc
      refine errP ?_
      refine PCall.intro (nt := 59) (rs := [.tmp 6, .tmp 7]) Tryz.func16 rfl ⟨by kernel_rfl, by kernel_rfl, by kernel_rfl⟩ (by simp) ?_
      rintro ⟨P, w0, ok0, may, np, pblk⟩ rfl rfl
      repeat' (first | refine W.seq fun K hK => ?_ | refine W.block ?_ | ((first | refine wR ?_ | refine wD ?_ | refine W.skip ?_ | refine W.exit ?_ | refine W.ret (Post.ret ?_) | refine aP ?_ | refine aF ?_ | refine aL ?_ | refine aU (hnn := by simp only [go_sem, reduceCtorEq, List.length_map, e1]) ?_ | refine aM ?_ | refine aN ?_ | refine aR ?_ | refine aD ?_); simp only [go_sem, reduceCtorEq, List.length_map, e1]) | refine wT ?_ | refine wF ?_ | refine wC (fun h => ?_) (fun h => ?_) | refine iK ?_ | refine aI2 ?_ | (refine hK _ ?_; clear hK K) | clear hK K)
    · rw [if_neg hcy] at hr
      rw [Bool.not_eq_true] at hcy
      rw [hcy] at cc
      obtain ⟨n, q, hq, hql, rfl⟩ := hr
      have hll : l.length * 168 ≤ 140737488355328 := by omega
      have cb := blocking_c c53 l hnd (fun z hz => (hI z hz).2) hll
      have hK1 : ∀ y ∈ kidM l, y.2.length ≤ 140737488355328 := fun y hy => by
        have h1 := kmN_len (srtId l) (srtId l).length y hy
        rw [(srtId_perm l).length_eq] at h1
        omega
      have cw := walk_nil (walk_c (kidM l) hK1 (fun y hy z hz => ⟨hT z (kidM_mem hy hz), (hI z (kidM_mem hy hz)).1⟩) F caps bf hbf n s _ _ q hq (hI s hsl).1 (show okE (evOf s false) from ⟨hT s hsl, (hI s hsl).1⟩) (show okE (evOf s true) from ⟨hT s hsl, (hI s hsl).1⟩) [] (by simpa using hql))
      have cs := c37 s false
      have ce := c37 s true
      have cv := reverse_c q hql
      clear c53 c71 g85 hbf hO hI c37 hq hs hK1
      simp only [spT, spA, evT, evA, evOf, List.map, List.nil_append] at cs ce cw
      refine PCall.intro (nt := 59) (rs := [.tmp 6, .tmp 7]) Tryz.func16 rfl ⟨by kernel_rfl, by kernel_rfl, by kernel_rfl⟩ (by simp) ?_
      rintro ⟨P, w0, ok0, may, np, pblk⟩ rfl rfl
      repeat' (first | refine W.seq fun K hK => ?_ | refine W.block ?_ | ((first | refine wR ?_ | refine wD ?_ | refine W.skip ?_ | refine W.exit ?_ | refine W.ret (Post.ret ?_) | refine aP ?_ | refine aF ?_ | refine aL ?_ | refine aU (hnn := by simp only [go_sem, reduceCtorEq, List.length_map, e1]) ?_ | refine aM ?_ | refine aN ?_ | refine aR ?_ | refine aD ?_); simp only [go_sem, reduceCtorEq, List.length_map, e1]) | refine wT ?_ | refine wF ?_ | refine wC (fun h => ?_) (fun h => ?_) | refine iK ?_ | refine aI2 ?_ | (refine hK _ ?_; clear hK K) | clear hK K)
      refine AX.gcall [27] rfl rfl (cw) (by simp only [go_sem, reduceCtorEq]) (by simp only [go_sem, reduceCtorEq]) rfl rfl (by simp only [go_sem, Obj.owns]) rfl (by simp only [go_sem, Obj.owns]) rfl rfl ?_
      simp only [go_sem, reduceCtorEq]
      repeat' (first | refine W.seq fun K hK => ?_ | refine W.block ?_ | ((first | refine wR ?_ | refine wD ?_ | refine W.skip ?_ | refine W.exit ?_ | refine W.ret (Post.ret ?_) | refine aP ?_ | refine aF ?_ | refine aL ?_ | refine aU ?_ | refine aM ?_ | refine aN ?_ | refine aR ?_ | refine aD ?_); simp only [go_sem, reduceCtorEq]) | refine wT ?_ | refine wF ?_ | refine wC (fun h => ?_) (fun h => ?_) | refine iK ?_ | refine aI2 ?_ | (refine hK _ ?_; clear hK K) | clear hK K)
      refine AX.gcall [35] rfl rfl (cv) (by simp only [go_sem, reduceCtorEq]) (by simp only [go_sem, reduceCtorEq]) rfl rfl (by simp only [go_sem, Obj.owns]) rfl (by simp only [go_sem, Obj.owns]) rfl rfl ?_
      simp only [go_sem, reduceCtorEq]
      repeat' (first | refine W.seq fun K hK => ?_ | refine W.block ?_ | ((first | refine wR ?_ | refine wD ?_ | refine W.skip ?_ | refine W.exit ?_ | refine W.ret (Post.ret ?_) | refine aP ?_ | refine aF ?_ | refine aL ?_ | refine aU (hnn := by simp only [go_sem, reduceCtorEq, unim_im]) ?_ | refine aM ?_ | refine aN ?_ | refine aR ?_ | refine aD ?_); simp only [go_sem, reduceCtorEq, unim_im]) | refine wT ?_ | refine wF ?_ | refine wC (fun h => ?_) (fun h => ?_) | refine iK ?_ | refine aI2 ?_ | (refine hK _ ?_; clear hK K) | clear hK K)
end Go.Proofs.YtaaflhmfhnfjhaaGreat
namespace Go.Proofs.YtaaflhmfhnfjhaaGreat
open Go.RowKit Go.Exe
/-! ### the times of the events -/
theorem wf64 {n : Int} (h : I64 n) : (Lit.int IntKind.i64 n).wf = true := by
  obtain ⟨h1, h2⟩ := h
  show (decide (-9223372036854775808 ≤ n) && decide (n ≤ 9223372036854775807)) = true
  simp
  exact ⟨h1, h2⟩
theorem kl3 (d : Nat) {n : Int} (h : I64 n) : Tryz.prog.keyLits (d + 1) 3 [.int .i64 n] = some [.int .i64 n] := by
  simp only [Program.keyLits, tU3]
  rw [if_pos ⟨trivial, wf64 h⟩]
theorem kl4 (d : Nat) (b : Bool) : Tryz.prog.keyLits (d + 1) 4 [.bool b] = some [.bool b] := by
  simp only [Program.keyLits, tU4]
theorem co3 : Tryz.prog.cellsOf 3 = 1 := by kernel_rfl
theorem co4 : Tryz.prog.cellsOf 4 = 1 := by kernel_rfl
theorem co50 : Tryz.prog.cellsOf 50 = 2 := by kernel_rfl
theorem co52 : Tryz.prog.cellsOf 52 = 3 := by kernel_rfl
theorem al50 : (Tryz.prog.fieldsOf 50).all (·.name != "_") = true := by kernel_rfl
theorem al52 : (Tryz.prog.fieldsOf 52).all (·.name != "_") = true := by kernel_rfl
theorem kl50 (d : Nat) {a b : Int} (ha : I64 a) (hb : I64 b) : Tryz.prog.keyLits (d + 2) 50 [.int .i64 a, .int .i64 b] = some [.int .i64 a, .int .i64 b] := by
  unfold Program.keyLits
  simp only [st56]
  simp only [co50, List.length_cons, List.length_nil, al50, and_self, if_true, fields56, List.mapM_cons, List.mapM_nil, co3, List.drop, List.take, kl3 d ha, kl3 d hb]
  rfl
theorem kl52 (d : Nat) {a b : Int} (e : Bool) (ha : I64 a) (hb : I64 b) : Tryz.prog.keyLits (d + 3) 52 [.int .i64 a, .int .i64 b, .bool e] = some [.int .i64 a, .int .i64 b, .bool e] := by
  unfold Program.keyLits
  simp only [st52]
  simp only [co52, List.length_cons, List.length_nil, al52, and_self, if_true, fields52, List.mapM_cons, List.mapM_nil, co50, co4, List.drop, List.take, kl50 d ha hb, kl4]
  rfl
def evV (x : Ev) : Value := .agg #[.int .i64 x.tr, .int .i64 x.id, .bool x.en]
theorem kt52 : Tryz.prog.keyType 52 = true := by kernel_rfl
theorem tsz : Nat.ble 3 (Tryz.prog.types.size + 1) = true := by kernel_rfl
theorem koE {x : Ev} (h : okE x) : KeyOk Tryz.prog 52 (evV x) := by
  obtain ⟨n, hn⟩ : ∃ n, Tryz.prog.types.size + 1 = n + 3 := ⟨Tryz.prog.types.size + 1 - 3, (Nat.sub_add_cancel (Nat.le_of_ble_eq_true tsz)).symm⟩
  unfold KeyOk
  have hf : (evV x).formed Tryz.prog 52 = true := by
    unfold evV Value.formed
    simp only [st52, co52]
    rfl
  have hc : (evV x).cells.toList = [.int .i64 x.tr, .int .i64 x.id, .bool x.en] := rfl
  refine ⟨.string (keyBytes [.int .i64 x.tr, .int .i64 x.id, .bool x.en]), ?_⟩
  unfold keyOf
  simp only [st52, kt52, hf, Bool.and_self, if_true, hc, hn, kl52 n x.en h.1 h.2]
  rfl
theorem evV_inj {x y : Ev} (h : evV x = evV y) : x = y := by
  obtain ⟨a, b, c⟩ := x
  obtain ⟨a2, b2, c2⟩ := y
  simp [evV] at h
  obtain ⟨rfl, rfl, rfl⟩ := h
  rfl
abbrev TM := List (Ev × Int)
def putT (m : TM) (x : Ev × Int) : TM := match m with
  | [] => [x]
  | y :: r => if y.1 = x.1 then x :: r else y :: putT r x
def getT (m : TM) (k : Ev) : Option Int := match m with
  | [] => none
  | y :: r => if y.1 = k then some y.2 else getT r k
def tmE (m : TM) : List (Value × Bool × List Cell) := m.map fun x => (evV x.1, false, [fl (.int .i64 x.2)])
def tmEA (m : TM) : List (Value × Bool × List AV) := m.map fun x => (evV x.1, false, [.flat (.int .i64 x.2)])
theorem tmE_close (m : TM) : closeE (tmE m) = some (tmEA m) := closeE_map _ _ (fun x => ⟨rfl, rfl, by simp [closeL, closeC]⟩) m
theorem rnEs_tmE (r : Ren) (m : TM) : rnEs r (tmE m) = tmE m := rnEs_map r _ (fun _ => rfl) _
theorem tmE_put (m : TM) (k : Ev) (n : Int) : mput (evV k) (false, [fl (.int .i64 n)]) (tmE m) = tmE (putT m (k, n)) := by
  induction m with
  | nil => rfl
  | cons y r ih =>
    simp only [tmE, List.map_cons, mput, putT] at ih ⊢
    by_cases h : y.1 = k
    · simp [h]
    · have : ¬ (evV y.1 = evV k) := fun e => h (evV_inj e)
      simp [h, this, ih]
theorem tmE_mget (k : Ev) : ∀ m : TM, mget (evV k) (tmE m) = (getT m k).map fun n => (false, [fl (.int .i64 n)])
  | [] => rfl
  | y :: r => by
    have ih := tmE_mget k r
    simp only [tmE, List.map_cons, mget, getT] at ih ⊢
    by_cases h : y.1 = k
    · simp [h]
    · have : ¬ (evV y.1 = evV k) := fun e => h (evV_inj e)
      simp [h, this, ih]
theorem froE_tm (m : TM) : froE (tmEA m) = tmE m := by
  rw [froE_map]; simp [tmEA, tmE, imL]
def tmv (m : TM) (x : Ev) : Int := (getT m x).getD 0
attribute [local irreducible] W AX Run RunD AStep AOp AOpX AStB AStH AStG Fits PCall GCall PostG Post Stop
theorem path1_c (m : TM) : BfC 38 [.pt [.mp 52 (tmEA m)]] (fun x y => decide (tmv m x < tmv m y)) := by
  intro x y hx hy
  have k1 := koE hx
  have k2 := koE hy
  have g1 := tmE_mget x m
  have g2 := tmE_mget y m
  rw [← froE_tm] at g1 g2
  unfold tmv
  simp only [evA, evV, List.map] at k1 k2 g1 g2 ⊢
  refine PCall.intro (nt := 14) (rs := [.tmp 5, .tmp 6]) Tryz.func38 rfl ⟨by kernel_rfl, by kernel_rfl, by kernel_rfl⟩ (by simp) ?_
  rintro ⟨P, w0, ok0, may, np, pblk⟩ rfl rfl
  cases h1 : getT m x with
  | none =>
    rw [h1] at g1
    simp only [Option.map_none] at g1
    cases h2 : getT m y with
    | none =>
      rw [h2] at g2
      simp only [Option.map_none] at g2
      repeat' (first | refine W.seq fun K hK => ?_ | refine W.block ?_ | ((first | refine wR ?_ | refine wD ?_ | refine W.skip ?_ | refine W.exit ?_ | refine W.ret (Post.ret ?_) | refine aP ?_ | refine aF ?_ | refine aL ?_ | refine aU (hnn := by simp only [go_sem, reduceCtorEq, g1, g2]) ?_ | refine aM ?_ | refine aN ?_ | refine aR ?_); simp only [go_sem, reduceCtorEq, g1, g2]) | refine wT ?_ | refine wF ?_ | refine wC (fun h => ?_) (fun h => ?_) | refine iK ?_ | refine aI2 ?_ | (refine hK _ ?_; clear hK K) | clear hK K)
    | some n =>
      rw [h2] at g2
      simp only [Option.map_some] at g2
      repeat' (first | refine W.seq fun K hK => ?_ | refine W.block ?_ | ((first | refine wR ?_ | refine wD ?_ | refine W.skip ?_ | refine W.exit ?_ | refine W.ret (Post.ret ?_) | refine aP ?_ | refine aF ?_ | refine aL ?_ | refine aU (hnn := by simp only [go_sem, reduceCtorEq, g1, g2]) ?_ | refine aM ?_ | refine aN ?_ | refine aR ?_); simp only [go_sem, reduceCtorEq, g1, g2]) | refine wT ?_ | refine wF ?_ | refine wC (fun h => ?_) (fun h => ?_) | refine iK ?_ | refine aI2 ?_ | (refine hK _ ?_; clear hK K) | clear hK K)
  | some n =>
    rw [h1] at g1
    simp only [Option.map_some] at g1
    cases h2 : getT m y with
    | none =>
      rw [h2] at g2
      simp only [Option.map_none] at g2
      repeat' (first | refine W.seq fun K hK => ?_ | refine W.block ?_ | ((first | refine wR ?_ | refine wD ?_ | refine W.skip ?_ | refine W.exit ?_ | refine W.ret (Post.ret ?_) | refine aP ?_ | refine aF ?_ | refine aL ?_ | refine aU (hnn := by simp only [go_sem, reduceCtorEq, g1, g2]) ?_ | refine aM ?_ | refine aN ?_ | refine aR ?_); simp only [go_sem, reduceCtorEq, g1, g2]) | refine wT ?_ | refine wF ?_ | refine wC (fun h => ?_) (fun h => ?_) | refine iK ?_ | refine aI2 ?_ | (refine hK _ ?_; clear hK K) | clear hK K)
    | some n =>
      rw [h2] at g2
      simp only [Option.map_some] at g2
      repeat' (first | refine W.seq fun K hK => ?_ | refine W.block ?_ | ((first | refine wR ?_ | refine wD ?_ | refine W.skip ?_ | refine W.exit ?_ | refine W.ret (Post.ret ?_) | refine aP ?_ | refine aF ?_ | refine aL ?_ | refine aU (hnn := by simp only [go_sem, reduceCtorEq, g1, g2]) ?_ | refine aM ?_ | refine aN ?_ | refine aR ?_); simp only [go_sem, reduceCtorEq, g1, g2]) | refine wT ?_ | refine wF ?_ | refine wC (fun h => ?_) (fun h => ?_) | refine iK ?_ | refine aI2 ?_ | (refine hK _ ?_; clear hK K) | clear hK K)
end Go.Proofs.YtaaflhmfhnfjhaaGreat
namespace Go.Proofs.YtaaflhmfhnfjhaaGreat
open Go.RowKit Go.Exe
/-! ### Path -/
def atV (v : List Of) (s : Spn) (e : Bool) : Int := IntKind.i64.wrap (atS s e - offK v s.clk)
def tmN (l : List Spn) (v : List Of) (n : Nat) : TM := (l.take n).foldl (fun m s => putT (putT m (evOf s false, atV v s false)) (evOf s true, atV v s true)) []
def bfT (l : List Spn) (v : List Of) (x y : Ev) : Bool := decide (tmv (tmN l v l.length) x < tmv (tmN l v l.length) y)
theorem tmN_step {l : List Spn} {v : List Of} {i : Nat} {s : Spn} (h : l[i]? = some s) : tmN l v (i + 1) = putT (putT (tmN l v i) (evOf s false, atV v s false)) (evOf s true, atV v s true) := by
  simp [tmN, List.take_add_one, h]
attribute [local irreducible] W AX Run RunD AStep AOp AOpX AStB AStH AStG Fits PCall GCall PostG Post Stop
theorem path_c0 (l : List Spn) (v : List Of) (root : Int) (hclk : ∀ s ∈ l, I64 s.clk) (hv : ∀ x ∈ v, I64 x.1) (hT : ∀ s ∈ l, I64 s.tr ∧ I64 s.id) (r : Int × List Sg)
    (c16 : chkE l v = 0 → PCall Tryz.prog 16 [spsT l, ft (.int .i64 root), .c (.im (.fn 38 [.pt [.mp 52 (tmEA (tmN l v l.length))]]))] (pthT r)) (hr : chkE l v ≠ 0 → r = (chkE l v, [])) :
    PCall Tryz.prog 13 [spsT l, ofsT v, ft (.int .i64 root)] (pthT r) := by
  have c20 := check_c l v hclk hv
  have c35 := offsets_c v hv
  have c36 := fun s e h => at_c s e v h
  have c37 := event_c
  by_cases h0 : chkE l v = 0
  · have c16 := c16 h0
    clear hr hv
    rw [h0] at c20
    refine PCall.intro (nt := 49) (rs := [.tmp 6, .tmp 7]) Tryz.func13 rfl ⟨by kernel_rfl, by kernel_rfl, by kernel_rfl⟩ (by simp) ?_
    rintro ⟨P, w0, ok0, may, np, pblk⟩ rfl rfl
    refine W.lenB 0 rfl tE36 fun hl0 hl1 => ?_
    rw [List.length_map] at hl1
    repeat' (first | refine W.seq fun K hK => ?_ | refine W.block ?_ | ((first | refine wR ?_ | refine wD ?_ | refine W.skip ?_ | refine W.exit ?_ | refine W.ret (Post.ret ?_) | refine aP ?_ | refine aF ?_ | refine aL ?_ | refine aU (hnn := by simp only [go_sem, reduceCtorEq, List.length_map]) ?_ | refine aM ?_ | refine aN ?_ | refine aR ?_ | refine aK ?_); simp only [go_sem, reduceCtorEq, List.length_map]) | refine wT ?_ | refine wF ?_ | refine wC (fun h => ?_) (fun h => ?_) | refine iK ?_ | refine aI2 ?_ | (refine hK _ ?_; clear hK K) | clear hK K)
    clear c20 c35
    refine W.loopF (T := fun i : Nat => { t := [(0, spsT l), (2, ft (.int .i64 root)), (9, ofmT v), (10, .c (.ptr 1 0)), (22, spsT l), (23, ft (.int .i64 l.length)), (24, ft (.int .i64 (i : Nat)))], h := [(0, .map 52 (tmE (tmN l v i))), (1, .box 93 [.mp 0])], nx := 2, ex := [], nt := 49 })
      (Inv := fun i => i ≤ l.length) (μ := fun i => l.length - i) (x0 := 0) ?_ (Nat.zero_le _) ?_
    · refine Fits.fit [(11, 0), (12, 1)] [0, 2, 9, 10, 22, 23, 24] 2 rfl rfl ?_
      simp only [go_sem, tmN, List.take_zero, List.foldl_nil, tmE, List.map_nil]
      exact Fits.rfl
    rintro i hi KL hKL
    by_cases hlt : i < l.length
    · obtain ⟨s, hx, hm, hd⟩ := drop_at hlt
      have e1 : decide ((i : Int) < l.length) = true := by simp; omega
      have e2 : decide (i < l.length) = true := by simp; omega
      have hw := w64s i (by omega)
      have hst := tmN_step (v := v) hx
      obtain ⟨m1, hm1⟩ : ∃ m, m = tmN l v (i + 1) := ⟨_, rfl⟩
      rw [← hm1] at hst
      have cs := c37 s false
      have ce := c37 s true
      have a0 := c36 s false (hclk s hm)
      have a1 := c36 s true (hclk s hm)
      have k0 : KeyOk Tryz.prog 52 (evV (evOf s false)) := koE (hT s hm)
      have k1 : KeyOk Tryz.prog 52 (evV (evOf s true)) := koE (hT s hm)
      clear c36 c37 c16
      generalize tmN l v i = m at *
      have hg := tmE_mget (evOf s false) m
      obtain ⟨m2, hm2⟩ : ∃ x, x = putT m (evOf s false, atV v s false) := ⟨_, rfl⟩
      have hput1 := tmE_put m (evOf s false) (atV v s false)
      rw [← hm2] at hst hput1
      have hput2 := tmE_put m2 (evOf s true) (atV v s true)
      rw [← hst] at hput2
      have hno := tmE_mget (evOf s true) m2
      have hcs : mget (evV (evOf s true)) (tmE m2) = none ∨ ∃ n, mget (evV (evOf s true)) (tmE m2) = some (false, [fl (.int .i64 n)]) := by
        rw [hno]
        cases getT m2 (evOf s true)
        · exact .inl rfl
        · exact .inr ⟨_, rfl⟩
      have hg : mget (evV (evOf s false)) (tmE m) = ((getT m (evOf s false)).map (Value.int .i64)).map fun x => (false, [fl x]) := by
        rw [hg, Option.map_map]; rfl
      generalize (getT m (evOf s false)).map (Value.int .i64) = old at hg
      have hse := setE_mput (evV (evOf s false)) (false, [fl (old.getD (.int .i64 0))]) (fl (.int .i64 (atV v s false))) rfl (tmE m)
      rw [hput1] at hse
      have hmg := mput_get (evV (evOf s false)) (false, [fl (old.getD (.int .i64 0))]) (tmE m)
      clear hno hput1
      unfold atV at hse hput2
      simp only [spT, spA, evV, evT, evA, evOf, List.map] at cs ce a0 a1 k0 k1 hg hput2 hcs hse hmg
      repeat' (first | refine W.seq fun K hK => ?_ | refine W.block ?_ | ((first | refine wR ?_ | refine wD ?_ | refine W.skip ?_ | refine W.exit ?_ | refine W.ret (Post.ret ?_) | refine aP ?_ | refine aF ?_ | refine aL ?_ | refine aU (hnn := by simp only [go_sem, reduceCtorEq, List.getElem?_map, hx, spA, e1, e2, hw]) ?_ | refine aM ?_ | refine aN ?_ | refine aR ?_ | refine aK ?_); simp only [go_sem, reduceCtorEq, List.getElem?_map, hx, spA, e1, e2, hw]) | refine wT ?_ | refine wF ?_ | refine wC (fun h => ?_) (fun h => ?_) | refine iK ?_ | refine aI2 ?_ | (refine hK _ ?_; clear hK K) | clear hK K)
      refine AX.mapEntry (old := old) (es := tmE m) rfl (aTM rfl) tG3 kd52 rfl rfl rfl k0 hg rfl ?_
      simp only [go_sem]
      repeat' (first | refine W.seq fun K hK => ?_ | refine W.block ?_ | ((first | refine wR ?_ | refine wD ?_ | refine W.skip ?_ | refine W.exit ?_ | refine W.ret (Post.ret ?_) | refine aP ?_ | refine aF ?_ | refine aL ?_ | refine aU ?_ | refine aM ?_ | refine aN ?_ | refine aR ?_ | refine aK ?_); simp only [go_sem, reduceCtorEq]) | refine wT ?_ | refine wF ?_ | refine wC (fun h => ?_) (fun h => ?_) | refine iK ?_ | refine aI2 ?_ | (refine hK _ ?_; clear hK K) | clear hK K)
      refine AX.entryStore rfl rfl rfl rfl rfl hmg rfl rfl ?_
      simp only [go_sem, hse]
      rcases hcs with hno | ⟨n, hno⟩
      all_goals
        repeat' (first | refine W.seq fun K hK => ?_ | refine W.block ?_ | ((first | refine wR ?_ | refine wD ?_ | refine W.skip ?_ | refine W.exit ?_ | refine W.ret (Post.ret ?_) | refine aP ?_ | refine aF ?_ | refine aL ?_ | refine aU (hnn := by simp only [go_sem, reduceCtorEq, hput2, hno, hw]) ?_ | refine aM ?_ | refine aN ?_ | refine aR ?_ | refine aK ?_); simp only [go_sem, reduceCtorEq, hput2, hno, hw]) | refine wT ?_ | refine wF ?_ | refine wC (fun h => ?_) (fun h => ?_) | refine iK ?_ | refine aI2 ?_ | (refine hK _ ?_; clear hK K) | clear hK K)
      all_goals refine hKL.to (i + 1) (by omega) (by omega) (Fits.fit [(0, 0), (1, 1)] [0, 2, 9, 10, 22, 23, 24] 2 rfl rfl ?_)
      all_goals simp only [go_sem, rnEs_tmE, hm1]
      all_goals exact Fits.rfl
    · obtain rfl : i = l.length := by omega
      have e1 : decide ((l.length : Int) < l.length) = false := by simp
      clear hKL
      repeat' (first | refine W.stop (id := 11) ?_ | refine W.seq fun K hK => ?_ | refine W.block ?_ | ((first | refine wR ?_ | refine wD ?_ | refine W.skip ?_ | refine W.exit ?_ | refine W.ret (Post.ret ?_) | refine aP ?_ | refine aF ?_ | refine aL ?_ | refine aU (hnn := by simp only [go_sem, reduceCtorEq, e1]) ?_ | refine aM ?_ | refine aN ?_ | refine aR ?_ | refine aK ?_); simp only [go_sem, reduceCtorEq, e1]) | refine wT ?_ | refine wF ?_ | refine wC (fun h => ?_) (fun h => ?_) | refine iK ?_ | refine aI2 ?_ | (refine hK _ ?_; clear hK K) | clear hK K)
      refine Stop.out ?_
      refine W.fits (Fits.freezeM 0 rfl (tmE_close _) (Fits.seeO 1 0 rfl rfl Fits.rfl)) ?_
      simp only [go_sem, Obj.see1]
      repeat' (first | refine W.seq fun K hK => ?_ | refine W.block ?_ | ((first | refine wR ?_ | refine wD ?_ | refine W.skip ?_ | refine W.exit ?_ | refine W.ret (Post.ret ?_) | refine aP ?_ | refine aF ?_ | refine aL ?_ | refine aU ?_ | refine aM ?_ | refine aN ?_ | refine aR ?_ | refine aK ?_); simp only [go_sem, reduceCtorEq]) | refine wT ?_ | refine wF ?_ | refine wC (fun h => ?_) (fun h => ?_) | refine iK ?_ | refine aI2 ?_ | (refine hK _ ?_; clear hK K) | clear hK K)
  · have hr := hr h0
    subst hr
    refine errP ?_
    have e2 : (chkE l v == 0) = false := by simp [h0]
    have e3 : (chkE l v != 0) = true := by simp [h0]
    refine PCall.intro (nt := 49) (rs := [.tmp 6, .tmp 7]) Tryz.func13 rfl ⟨by kernel_rfl, by kernel_rfl, by kernel_rfl⟩ (by simp) ?_
    rintro ⟨P, w0, ok0, may, np, pblk⟩ rfl rfl
    repeat' (first | refine W.seq fun K hK => ?_ | refine W.block ?_ | ((first | refine wR ?_ | refine wD ?_ | refine W.skip ?_ | refine W.exit ?_ | refine W.ret (Post.ret ?_) | refine aP ?_ | refine aF ?_ | refine aL ?_ | refine aU (hnn := by simp only [go_sem, reduceCtorEq, e2, e3]) ?_ | refine aM ?_ | refine aN ?_ | refine aR ?_ | refine aK ?_); simp only [go_sem, reduceCtorEq, e2, e3]) | refine wT ?_ | refine wF ?_ | refine wC (fun h => ?_) (fun h => ?_) | refine iK ?_ | refine aI2 ?_ | (refine hK _ ?_; clear hK K) | clear hK K)
end Go.Proofs.YtaaflhmfhnfjhaaGreat
namespace Go.Proofs.YtaaflhmfhnfjhaaGreat
open Go.RowKit Go.Exe
/-! ### the keys of a map of numbers, sorted -/
attribute [local irreducible] W AX Run RunD AStep AOp AOpX AStB AStH AStG Fits PCall GCall PostG Post Stop
theorem keysO1_it (m : List Of) (ks : List Int) (hks : ks = m.map (·.1)) : ItC Tryz.prog 72 [.c (.im (.pt [.mp 3 (ofEA m)]))] (fun k => ft (.int .i64 k)) (fun ys => ys.Perm ks) ks.length := by
  intro l J hJ hY
  refine GCall.introG (nt := 14) (rs := []) Tryz.func72 rfl ⟨by kernel_rfl, by kernel_rfl, by kernel_rfl⟩ (by simp) ?_
  rintro ⟨P, w0, ok0, may, np, pblk⟩ rfl rfl
  simp only [go_sem]
  repeat' (first | refine W.seq fun K hK => ?_ | refine W.block ?_ | ((first | refine wR ?_ | refine wD ?_ | refine W.skip ?_ | refine W.exit ?_ | refine W.ret (Post.ret ?_) | refine aP ?_ | refine aF ?_ | refine aY (k0 := 0) ?_ | refine aL ?_ | refine aU ?_ | refine aM ?_ | refine aN ?_ | refine aR ?_ | refine aK ?_ | refine aZ ?_); simp only [go_sem, reduceCtorEq]) | refine wT ?_ | refine wF ?_ | refine wC (fun h => ?_) (fun h => ?_) | refine iK ?_ | refine aI2 ?_ | (refine hK _ ?_; clear hK K) | clear hK K)
  have hlen : (ofEA m).length = ks.length := by simp [ofEA, hks]
  refine W.loopF (T := fun seen : List Nat => { t := [(0, ft (.func (.yield l) #[] #[])), (5, .c (.ptr 1 0))], h := [(0, .raw (J (selK ks seen))), (1, .itf 3 (ofEA m) seen)], nx := 2, ex := [], nt := 14 })
    (Inv := fun seen => seen.Nodup ∧ ∀ j ∈ seen, j < ks.length) (μ := fun seen => ks.length - seen.length) (x0 := []) (Fits.fit [(0, 0), (2, 1)] [0, 5] 2 rfl rfl ?_) ⟨List.nodup_nil, by simp⟩ ?_
  · simp only [go_sem, selK, List.map_nil]
    exact Fits.rfl
  rintro seen ⟨hnd, hbd⟩ KL hKL
  repeat' (first | refine W.stop (id := 1) ?_ | refine W.seq fun K hK => ?_ | refine W.block ?_ | ((first | refine wR ?_ | refine wD ?_ | refine W.skip ?_ | refine W.exit ?_ | refine W.ret (Post.ret ?_) | refine aP ?_ | refine aF ?_ | refine aY (k0 := 0) ?_ | refine aL ?_ | refine aU ?_ | refine aM ?_ | refine aN ?_ | refine aR ?_ | refine aK ?_ | refine aZ ?_); simp only [go_sem, reduceCtorEq]) | refine wT ?_ | refine wF ?_ | refine wC (fun h => ?_) (fun h => ?_) | refine iK ?_ | refine aI2 ?_ | (refine hK _ ?_; clear hK K) | clear hK K)
  refine Stop.out ?_
  refine W.nextReg rfl rfl rfl rfl rfl rfl rfl rfl rfl rfl (fun j e he hj => ?_) (fun hall => ?_)
  · simp only [ofEA, List.getElem?_map, Option.map_eq_some_iff] at he
    obtain ⟨⟨k, n⟩, hkn, rfl⟩ := he
    have hk : ks[j]? = some k := by rw [hks, List.getElem?_map, hkn]; rfl
    have hjl := (List.getElem?_eq_some_iff.1 hk).1
    have hn2 : (seen ++ [j]).Nodup := List.nodup_append.2 ⟨hnd, by simp, fun x hx y hy => by simp at hy; subst hy; exact fun e => hj (e ▸ hx)⟩
    have hb2 : ∀ i ∈ seen ++ [j], i < ks.length := fun i hi => by
      rcases List.mem_append.1 hi with h | h
      · exact hbd i h
      · simp at h; omega
    have hsl := seen_le hn2 hb2
    have hsa : (seen ++ [j]).length = seen.length + 1 := by simp
    have hed : (ofEA m)[j]? = some (.int .i64 k, false, [.flat (.int .i64 n)]) := by simp [ofEA, hkn]
    have hs2 : selK ks seen ++ [k] = selK ks (seen ++ [j]) := by simp [selK, List.getD_eq_getElem?_getD, hk]
    have hy := hY (selK ks seen) k (by simp [selK]; omega)
    rw [hs2] at hy
    simp only [go_sem]
    repeat' (first | refine W.seq fun K hK => ?_ | refine W.block ?_ | ((first | refine wR ?_ | refine wD ?_ | refine W.skip ?_ | refine W.exit ?_ | refine W.ret (Post.ret ?_) | refine aP ?_ | refine aF ?_ | refine aY (k0 := 0) ?_ | refine aL ?_ | refine aU ?_ | refine aM ?_ | refine aN ?_ | refine aR ?_ | refine aK ?_ | refine aZ ?_); simp only [go_sem, reduceCtorEq]) | refine wT ?_ | refine wF ?_ | refine wC (fun h => ?_) (fun h => ?_) | refine iK ?_ | refine aI2 ?_ | (refine hK _ ?_; clear hK K) | clear hK K)
    refine AX.entry rfl rfl rfl (j := j) (by simp) hed rfl rfl ?_
    simp only [go_sem, imL]
    repeat' (first | refine W.seq fun K hK => ?_ | refine W.block ?_ | ((first | refine wR ?_ | refine wD ?_ | refine W.skip ?_ | refine W.exit ?_ | refine W.ret (Post.ret ?_) | refine aP ?_ | refine aF ?_ | refine aY (k0 := 0) ?_ | refine aL ?_ | refine aU ?_ | refine aM ?_ | refine aN ?_ | refine aR ?_ | refine aK ?_ | refine aZ ?_); simp only [go_sem, reduceCtorEq]) | refine wT ?_ | refine wF ?_ | refine wC (fun h => ?_) (fun h => ?_) | refine iK ?_ | refine aI2 ?_ | (refine hK _ ?_; clear hK K) | clear hK K)
    refine hKL.to (seen ++ [j]) ⟨hn2, hb2⟩ (by omega) (Fits.fit [(0, 0), (1, 1)] [0, 5] 2 rfl rfl ?_)
    simp only [go_sem]
    exact Fits.rfl
  · simp only [go_sem]
    clear hKL
    have hall : ∀ j, j < ks.length → j ∈ seen := fun j hj => hall j (by rw [hlen]; exact hj)
    have hp := selK_perm hnd hbd hall
    repeat' (first | refine W.seq fun K hK => ?_ | refine W.block ?_ | ((first | refine wR ?_ | refine wD ?_ | refine W.skip ?_ | refine W.exit ?_ | refine W.ret (Post.ret ?_) | refine aP ?_ | refine aF ?_ | refine aY (k0 := 0) ?_ | refine aL ?_ | refine aU ?_ | refine aM ?_ | refine aN ?_ | refine aR ?_ | refine aK ?_ | refine aZ ?_); simp only [go_sem, reduceCtorEq]) | refine wT ?_ | refine wF ?_ | refine wC (fun h => ?_) (fun h => ?_) | refine iK ?_ | refine aI2 ?_ | (refine hK _ ?_; clear hK K) | clear hK K)
    refine PostG.normal (Fits.weak 0 (o1 := .raw fun ok B w => ∃ ys, ys.Perm ks ∧ J ys ok B w) rfl rfl (fun ok w L h => ?_) (Fits.fit [(0, 0)] [] 1 rfl rfl Fits.rfl)) rfl rfl ?_
    · obtain ⟨h1, h2, _⟩ := h
      exact ⟨h1, ⟨_, hp, h2⟩, fun ok ok' B w w' ⟨ys, e, hj⟩ k1 k2 => ⟨ys, e, hJ _ ok ok' B w w' hj k1 k2⟩⟩
    · simp only [St.r, go_sem]
theorem keysO_c (m : List Of) : PCall Tryz.prog 50 [.c (.im (.mp 3 (ofEA m)))] (.c (.im (.fn 72 [.pt [.mp 3 (ofEA m)]]))) := by
  refine PCall.intro (nt := 4) (rs := [.tmp 2]) Tryz.func50 rfl ⟨by kernel_rfl, by kernel_rfl, by kernel_rfl⟩ (by simp) ?_
  rintro ⟨P, w0, ok0, may, np, pblk⟩ rfl rfl
  repeat' (first | refine W.seq fun K hK => ?_ | refine W.block ?_ | ((first | refine wR ?_ | refine wD ?_ | refine W.skip ?_ | refine W.exit ?_ | refine W.ret (Post.ret ?_) | refine aP ?_ | refine aF ?_ | refine aY (k0 := 0) ?_ | refine aL ?_ | refine aU ?_ | refine aM ?_ | refine aN ?_ | refine aR ?_ | refine aK ?_ | refine aZ ?_); simp only [go_sem, reduceCtorEq]) | refine wT ?_ | refine wF ?_ | refine wC (fun h => ?_) (fun h => ?_) | refine iK ?_ | refine aI2 ?_ | (refine hK _ ?_; clear hK K) | clear hK K)
theorem sortedO_c (c60 : SortI Tryz.prog 71) (m : List Of) (ks : List Int) (hks : ks = m.map (·.1)) (hlen : ks.length * 8 ≤ 140737488355328) :
    GCall Tryz.prog 49 0 (St.g [.c (.im (.fn 72 [.pt [.mp 3 (ofEA m)]]))] [] 0) (St.r (.c (.ref 0)) [(0, .row 3 (imR ((srtI ks).map iA)))] 1) := by
  have hc := collectI_c 72 [.pt [.mp 3 (ofEA m)]] _ _ (keysO1_it m ks hks) hlen
  refine GCall.introG (nt := 9) (rs := [.tmp 2]) Tryz.func49 rfl ⟨by kernel_rfl, by kernel_rfl, by kernel_rfl⟩ (by simp) ?_
  rintro ⟨P, w0, ok0, may, np, pblk⟩ rfl rfl
  simp only [go_sem]
  repeat' (first | refine W.stop (id := 1) ?_ | refine W.seq fun K hK => ?_ | refine W.block ?_ | ((first | refine wR ?_ | refine wD ?_ | refine W.skip ?_ | refine W.exit ?_ | refine W.ret (Post.ret ?_) | refine aP ?_ | refine aF ?_ | refine aY (k0 := 0) ?_ | refine aL ?_ | refine aU ?_ | refine aM ?_ | refine aN ?_ | refine aR ?_ | refine aK ?_ | refine aZ ?_); simp only [go_sem, reduceCtorEq]) | refine wT ?_ | refine wF ?_ | refine wC (fun h => ?_) (fun h => ?_) | refine iK ?_ | refine aI2 ?_ | (refine hK _ ?_; clear hK K) | clear hK K)
  refine Stop.out ?_
  refine W.regE ?_
  refine ⟨rfl, OpE.ofAOp 9 (by simp [St.used]) ?_⟩
  simp only [go_sem]
  refine ⟨rfl, OpE.gcall 9 [] rfl rfl hc rfl rfl rfl rfl rfl rfl (fun _ _ => rfl) rfl rfl (by simp [St.used]) fun ys hys => ?_⟩
  simp only [go_sem]
  refine ⟨rfl, OpE.ofAOp 10 (by simp [St.used]) ?_⟩
  simp only [go_sem]
  refine ⟨_, Fits.fit [(9, 0)] [3] 1 rfl rfl Fits.rfl, ?_⟩
  simp only [go_sem]
  repeat' (first | refine W.seq fun K hK => ?_ | refine W.block ?_ | ((first | refine wR ?_ | refine wD ?_ | refine W.skip ?_ | refine W.exit ?_ | refine W.ret (Post.ret ?_) | refine aP ?_ | refine aF ?_ | refine aY (k0 := 0) ?_ | refine aL ?_ | refine aU ?_ | refine aM ?_ | refine aN ?_ | refine aR ?_ | refine aK ?_ | refine aZ ?_); simp only [go_sem, reduceCtorEq]) | refine wT ?_ | refine wF ?_ | refine wC (fun h => ?_) (fun h => ?_) | refine iK ?_ | refine aI2 ?_ | (refine hK _ ?_; clear hK K) | clear hK K)
  refine AX.sortI (zs := ys) rfl rfl rfl rfl rfl tE3 (by decide) c60 rfl ?_
  rw [srtI_uni hys]
  simp only [go_sem]
  repeat' (first | refine W.seq fun K hK => ?_ | refine W.block ?_ | ((first | refine wR ?_ | refine wD ?_ | refine W.skip ?_ | refine W.exit ?_ | refine W.ret (Post.ret ?_) | refine aP ?_ | refine aF ?_ | refine aY (k0 := 0) ?_ | refine aL ?_ | refine aU ?_ | refine aM ?_ | refine aN ?_ | refine aR ?_ | refine aK ?_ | refine aZ ?_); simp only [go_sem, reduceCtorEq]) | refine wT ?_ | refine wF ?_ | refine wC (fun h => ?_) (fun h => ?_) | refine iK ?_ | refine aI2 ?_ | (refine hK _ ?_; clear hK K) | clear hK K)
  refine W.ret (PostG.ret (Fits.fit [(0, 0)] [2] 1 rfl rfl Fits.rfl) rfl rfl ?_)
  simp only [St.r, go_sem]
  rfl
end Go.Proofs.YtaaflhmfhnfjhaaGreat
namespace Go.Proofs.YtaaflhmfhnfjhaaGreat
open Go.RowKit Go.Exe
/-! ### Exclusive -/
def exN (p : List Sg) (L : List Int) (n : Nat) : List Of := ((p.zip L).take n).foldl (fun m x => putO m (x.1.sp.2, IntKind.i64.wrap ((getO m x.1.sp.2).getD 0 + x.2))) []
def exF (p : List Sg) (L : List Int) : List Of := (srtI ((exN p L p.length).map (·.1))).map fun k => (k, (getO (exN p L p.length) k).getD 0)
abbrev exT (e : Int) (q : List Of) : TV := .t [(false, [.im (.sl 75 (q.map ofA))]), (false, [fl (.int .i64 e)])]
theorem exN_step {p : List Sg} {L : List Int} {i : Nat} {x : Sg} {n : Int} (h : p[i]? = some x) (h2 : L[i]? = some n) : exN p L (i + 1) = putO (exN p L i) (x.sp.2, IntKind.i64.wrap ((getO (exN p L i) x.sp.2).getD 0 + n)) := by
  have : (p.zip L)[i]? = some (x, n) := by rw [List.getElem?_zip_eq_some]; exact ⟨h, h2⟩
  simp [exN, List.take_add_one, this]
theorem putO_len (m : List Of) (x : Of) : (putO m x).length ≤ m.length + 1 := by
  induction m with
  | nil => simp [putO]
  | cons y r ih => simp only [putO]; split <;> simp <;> omega
theorem exN_len (p : List Sg) (L : List Int) (n : Nat) : (exN p L n).length ≤ n := by
  have key : ∀ (l : List (Sg × Int)) (m : List Of), (l.foldl (fun m x => putO m (x.1.sp.2, IntKind.i64.wrap ((getO m x.1.sp.2).getD 0 + x.2))) m).length ≤ m.length + l.length := by
    intro l
    induction l with
    | nil => simp
    | cons x l ih =>
      intro m
      have h1 := ih (putO m (x.1.sp.2, IntKind.i64.wrap ((getO m x.1.sp.2).getD 0 + x.2)))
      have h2 := putO_len m (x.1.sp.2, IntKind.i64.wrap ((getO m x.1.sp.2).getD 0 + x.2))
      simp only [List.foldl_cons, List.length_cons]; omega
  have h1 := key ((p.zip L).take n) []
  have h2 := List.length_take_le n (p.zip L)
  simp only [List.length_nil] at h1
  unfold exN; omega
theorem putO_key {m : List Of} {x y : Of} (h : y ∈ putO m x) : y = x ∨ y ∈ m := by
  induction m with
  | nil => simp [putO] at h; exact .inl h
  | cons z r ih =>
    simp only [putO] at h
    split at h
    · rcases List.mem_cons.1 h with rfl | h
      · exact .inl rfl
      · exact .inr (by simp [h])
    · rcases List.mem_cons.1 h with rfl | h
      · exact .inr (by simp)
      · rcases ih h with h | h
        · exact .inl h
        · exact .inr (by simp [h])
theorem exN_keys {p : List Sg} {L : List Int} (hp : ∀ x ∈ p, I64 x.sp.2) (n : Nat) : ∀ y ∈ exN p L n, I64 y.1 := by
  have key : ∀ (l : List (Sg × Int)) (m : List Of), (∀ x ∈ l, I64 x.1.sp.2) → (∀ y ∈ m, I64 y.1) → ∀ y ∈ l.foldl (fun m x => putO m (x.1.sp.2, IntKind.i64.wrap ((getO m x.1.sp.2).getD 0 + x.2))) m, I64 y.1 := by
    intro l
    induction l with
    | nil => exact fun m _ h => h
    | cons x l ih =>
      intro m hl hm
      refine ih _ (fun z hz => hl z (by simp [hz])) fun y hy => ?_
      rcases putO_key hy with rfl | hy
      · exact hl x (by simp)
      · exact hm y hy
  refine key _ [] (fun x hx => hp _ ?_) (by simp)
  exact (List.of_mem_zip (List.mem_of_mem_take hx)).1
theorem snocO (l : List Of) (x : Of) : imR ((l ++ [x]).map ofA) = imR (l.map ofA) ++ [(ofA x).map .im] := by simp [imR, imL]
attribute [local irreducible] W AX Run RunD AStep AOp AOpX AStB AStH AStG Fits PCall GCall PostG Post Stop
theorem excl_c (c71 : SortI Tryz.prog 71) (l : List Spn) (v : List Of) (root : Int) (p : List Sg) (L : List Int) (hL : L.length = p.length) (hp : ∀ x ∈ p, I64 x.sp.2)
    (c13 : PCall Tryz.prog 13 [spsT l, ofsT v, ft (.int .i64 root)] (.t [(false, [.im (.sl 66 (p.map sgA))]), (false, [fl (.int .i64 0)])]))
    (c24 : PCall Tryz.prog 24 [spsT l, ofsT v, sgsT p] (.t [(false, [.im (.sl 3 (L.map iA))]), (false, [fl (.int .i64 0)])])) :
    PCall Tryz.prog 27 [spsT l, ofsT v, ft (.int .i64 root)] (exT 0 (exF p L)) := by
  refine PCall.intro (nt := 74) (rs := [.tmp 6, .tmp 7]) Tryz.func27 rfl ⟨by kernel_rfl, by kernel_rfl, by kernel_rfl⟩ (by simp) ?_
  rintro ⟨P, w0, ok0, may, np, pblk⟩ rfl rfl
  repeat' (first | refine W.stop (id := 8) ?_ | refine W.seq fun K hK => ?_ | refine W.block ?_ | ((first | refine wR ?_ | refine wD ?_ | refine W.skip ?_ | refine W.exit ?_ | refine W.ret (Post.ret ?_) | refine aP ?_ | refine aF ?_ | refine aL ?_ | refine aU ?_ | refine aM ?_ | refine aN ?_ | refine aR ?_); simp only [go_sem, reduceCtorEq]) | refine wT ?_ | refine wF ?_ | refine wC (fun h => ?_) (fun h => ?_) | refine iK ?_ | refine aI2 ?_ | (refine hK _ ?_; clear hK K) | clear hK K)
  refine Stop.out ?_
  refine W.lenB 8 rfl tE66 fun hl0 hl1 => ?_
  rw [List.length_map] at hl1
  repeat' (first | refine W.seq fun K hK => ?_ | refine W.block ?_ | ((first | refine wR ?_ | refine wD ?_ | refine W.skip ?_ | refine W.exit ?_ | refine W.ret (Post.ret ?_) | refine aP ?_ | refine aF ?_ | refine aL ?_ | refine aU (hnn := by simp only [go_sem, reduceCtorEq, List.length_map]) ?_ | refine aM ?_ | refine aN ?_ | refine aR ?_); simp only [go_sem, reduceCtorEq, List.length_map]) | refine wT ?_ | refine wF ?_ | refine wC (fun h => ?_) (fun h => ?_) | refine iK ?_ | refine aI2 ?_ | (refine hK _ ?_; clear hK K) | clear hK K)
  clear c13 c24
  refine W.loopF (T := fun i : Nat => { t := [(10, intsT L), (11, .c (.mp 0)), (38, sgsT p), (39, ft (.int .i64 p.length)), (40, ft (.int .i64 (i : Nat)))], h := [(0, .map 3 (ofE (exN p L i)))], nx := 1, ex := [], nt := 74 })
    (Inv := fun i => i ≤ p.length) (μ := fun i => p.length - i) (x0 := 0) ?_ (Nat.zero_le _) ?_
  · refine Fits.fit [(24, 0)] [10, 11, 38, 39, 40] 1 rfl rfl ?_
    simp only [go_sem, exN, List.take_zero, List.foldl_nil, ofE, List.map_nil]
    exact Fits.rfl
  rintro i hi KL hKL
  by_cases hlt : i < p.length
  · obtain ⟨x, hx, hm, hd⟩ := drop_at hlt
    obtain ⟨n, hn, _, _⟩ := drop_at (show i < L.length by omega)
    have e1 : decide ((i : Int) < p.length) = true := by simp; omega
    have e2 : decide (i < p.length) = true := by simp; omega
    have hw := w64s i (by omega)
    have hko := koI (hp x hm)
    have hst := exN_step hx hn
    obtain ⟨m1, hm1⟩ : ∃ m, m = exN p L (i + 1) := ⟨_, rfl⟩
    rw [← hm1] at hst
    generalize exN p L i = m at *
    have hput := ofE_put m x.sp.2 (IntKind.i64.wrap ((getO m x.sp.2).getD 0 + n))
    rw [← hst] at hput
    have hg := ofE_mget x.sp.2 m
    cases hgo : getO m x.sp.2 with
    | none =>
      rw [hgo] at hg hput
      simp only [Option.map_none, Option.getD_none] at hg hput
      repeat' (first | refine W.seq fun K hK => ?_ | refine W.block ?_ | ((first | refine wR ?_ | refine wD ?_ | refine W.skip ?_ | refine W.exit ?_ | refine W.ret (Post.ret ?_) | refine aP ?_ | refine aF ?_ | refine aL ?_ | refine aU (hnn := by simp only [go_sem, reduceCtorEq, List.getElem?_map, hx, hn, sgA, iA, e1, e2, hw, hg, hput, hL, List.length_map]) ?_ | refine aM ?_ | refine aN ?_ | refine aR ?_); simp only [go_sem, reduceCtorEq, List.getElem?_map, hx, hn, sgA, iA, e1, e2, hw, hg, hput, hL, List.length_map]) | refine wT ?_ | refine wF ?_ | refine wC (fun h => ?_) (fun h => ?_) | refine iK ?_ | refine aI2 ?_ | (refine hK _ ?_; clear hK K) | clear hK K)
      refine hKL.to (i + 1) (by omega) (by omega) (Fits.fit [(0, 0)] [10, 11, 38, 39, 40] 1 rfl rfl ?_)
      simp only [go_sem, rnEs_ofE, hm1]
      exact Fits.rfl
    | some k =>
      rw [hgo] at hg hput
      simp only [Option.map_some, Option.getD_some] at hg hput
      repeat' (first | refine W.seq fun K hK => ?_ | refine W.block ?_ | ((first | refine wR ?_ | refine wD ?_ | refine W.skip ?_ | refine W.exit ?_ | refine W.ret (Post.ret ?_) | refine aP ?_ | refine aF ?_ | refine aL ?_ | refine aU (hnn := by simp only [go_sem, reduceCtorEq, List.getElem?_map, hx, hn, sgA, iA, e1, e2, hw, hg, hput, hL, List.length_map]) ?_ | refine aM ?_ | refine aN ?_ | refine aR ?_); simp only [go_sem, reduceCtorEq, List.getElem?_map, hx, hn, sgA, iA, e1, e2, hw, hg, hput, hL, List.length_map]) | refine wT ?_ | refine wF ?_ | refine wC (fun h => ?_) (fun h => ?_) | refine iK ?_ | refine aI2 ?_ | (refine hK _ ?_; clear hK K) | clear hK K)
      refine hKL.to (i + 1) (by omega) (by omega) (Fits.fit [(0, 0)] [10, 11, 38, 39, 40] 1 rfl rfl ?_)
      simp only [go_sem, rnEs_ofE, hm1]
      exact Fits.rfl
  · obtain rfl : i = p.length := by omega
    have e1 : decide ((p.length : Int) < p.length) = false := by simp
    have hml := exN_len p L p.length
    clear hKL
    obtain ⟨m, hm⟩ : ∃ m, m = exN p L p.length := ⟨_, rfl⟩
    rw [← hm] at hml
    have ck := keysO_c m
    have hkl : (m.map (·.1)).length = m.length := by simp
    have cs := sortedO_c c71 m (m.map (·.1)) rfl (by rw [hkl]; omega)
    have hsp : (srtI (m.map (·.1))).Perm (m.map (·.1)) := List.mergeSort_perm _ _
    have hsl : (srtI (m.map (·.1))).length = m.length := by rw [hsp.length_eq, hkl]
    rw [← hm]
    obtain ⟨ks, hks⟩ : ∃ ks, ks = srtI (m.map (·.1)) := ⟨_, rfl⟩
    rw [← hks] at hsl cs hsp
    have hkI : ∀ k ∈ ks, I64 k := fun k hk => by
      obtain ⟨y, hy, rfl⟩ := List.mem_map.1 (hsp.mem_iff.1 hk)
      exact exN_keys (L := L) hp p.length y (hm ▸ hy)
    repeat' (first | refine W.stop (id := 13) ?_ | refine W.seq fun K hK => ?_ | refine W.block ?_ | ((first | refine wR ?_ | refine wD ?_ | refine W.skip ?_ | refine W.exit ?_ | refine W.ret (Post.ret ?_) | refine aP ?_ | refine aF ?_ | refine aL ?_ | refine aU (hnn := by simp only [go_sem, reduceCtorEq, e1]) ?_ | refine aM ?_ | refine aN ?_ | refine aR ?_); simp only [go_sem, reduceCtorEq, e1]) | refine wT ?_ | refine wF ?_ | refine wC (fun h => ?_) (fun h => ?_) | refine iK ?_ | refine aI2 ?_ | (refine hK _ ?_; clear hK K) | clear hK K)
    refine Stop.out ?_
    refine W.fits (Fits.freezeM 0 rfl (ofE_close _) (Fits.seeT 11 0 rfl (.inr rfl) rfl Fits.rfl)) ?_
    simp only [go_sem]
    repeat' (first | refine W.seq fun K hK => ?_ | refine W.block ?_ | ((first | refine wR ?_ | refine wD ?_ | refine W.skip ?_ | refine W.exit ?_ | refine W.ret (Post.ret ?_) | refine aP ?_ | refine aF ?_ | refine aL ?_ | refine aU ?_ | refine aM ?_ | refine aN ?_ | refine aR ?_); simp only [go_sem, reduceCtorEq]) | refine wT ?_ | refine wF ?_ | refine wC (fun h => ?_) (fun h => ?_) | refine iK ?_ | refine aI2 ?_ | (refine hK _ ?_; clear hK K) | clear hK K)
    refine AX.gcall [] rfl rfl (cs) (by simp only [go_sem, reduceCtorEq, List.length_map]) (by simp only [go_sem, reduceCtorEq, List.length_map]) rfl rfl (by simp only [go_sem, Obj.owns]) rfl (by simp only [go_sem, Obj.owns]) rfl rfl ?_
    simp only [go_sem, reduceCtorEq, List.length_map]
    repeat' (first | refine W.seq fun K hK => ?_ | refine W.block ?_ | ((first | refine wR ?_ | refine wD ?_ | refine W.skip ?_ | refine W.exit ?_ | refine W.ret (Post.ret ?_) | refine aP ?_ | refine aF ?_ | refine aL ?_ | refine aU (hnn := by simp only [go_sem, reduceCtorEq, imR_len, List.length_map]) ?_ | refine aM ?_ | refine aN ?_ | refine aR ?_); simp only [go_sem, reduceCtorEq, imR_len, List.length_map]) | refine wT ?_ | refine wF ?_ | refine wC (fun h => ?_) (fun h => ?_) | refine iK ?_ | refine aI2 ?_ | (refine hK _ ?_; clear hK K) | clear hK K)
    clear cs ck hsp
    rw [← hsl] at hml
    clear hsl
    refine W.loopF (T := fun i : Nat => { t := [(11, .c (.im (.mp 3 (ofEA m)))), (14, .c (.ref 1)), (58, .c (.ref 0)), (59, ft (.int .i64 ks.length)), (60, ft (.int .i64 (i : Nat)))], h := [(0, .row 3 (imR (ks.map iA))), (1, .row 75 (imR (((ks.take i).map fun k => (k, (getO m k).getD 0)).map ofA)))], nx := 2, ex := [], nt := 74 })
      (Inv := fun i => i ≤ ks.length) (μ := fun i => ks.length - i) (x0 := 0) ?_ (Nat.zero_le _) ?_
    · refine Fits.adopt 14 99 75 rfl rfl rfl tE75 rfl ?_
      refine Fits.fit [(5, 0), (99, 1)] [11, 14, 58, 59, 60] 2 rfl rfl ?_
      simp only [go_sem, List.take_zero, List.map_nil, imR_nil]
      exact Fits.rfl
    rintro i hi KI hKI
    by_cases hlt : i < ks.length
    · obtain ⟨k, hx, hm2, hd⟩ := drop_at hlt
      have e1 : decide ((i : Int) < ks.length) = true := by simp; omega
      have e2 : decide (i < ks.length) = true := by simp; omega
      have hw := w64s i (by omega)
      have hko := koI (hkI k hm2)
      have hg := ofE_mget k m
      rw [← froE_of] at hg
      have htk : (ks.take (i + 1)).map (fun k => (k, (getO m k).getD 0)) = (ks.take i).map (fun k => (k, (getO m k).getD 0)) ++ [(k, (getO m k).getD 0)] := by
        rw [List.take_add_one, hx]; simp
      have hkx : (imR (ks.map iA))[i]? = some [.im (.flat (.int .i64 k))] := by simp [imR, imL, iA, hx]
      have hlt2 : (ks.take i).length ≤ i := List.length_take_le i ks
      cases hgo : getO m k with
      | none =>
        rw [hgo] at hg htk
        simp only [Option.map_none, Option.getD_none] at hg htk
        repeat' (first | refine W.seq fun K hK => ?_ | refine W.block ?_ | ((first | refine wR ?_ | refine wD ?_ | refine W.skip ?_ | refine W.exit ?_ | refine W.ret (Post.ret ?_) | refine aP ?_ | refine aF ?_ | refine aL ?_ | refine aU (hnn := by simp only [go_sem, reduceCtorEq, hkx, e1, e2, hw, hg, imR_len, List.length_map]) ?_ | refine aM ?_ | refine aN ?_ | refine aR ?_); simp only [go_sem, reduceCtorEq, hkx, e1, e2, hw, hg, imR_len, List.length_map]) | refine wT ?_ | refine wF ?_ | refine wC (fun h => ?_) (fun h => ?_) | refine iK ?_ | refine aI2 ?_ | (refine hK _ ?_; clear hK K) | clear hK K)
        refine hKI.to (i + 1) (by omega) (by omega) (Fits.fit [(0, 0), (13, 1)] [11, 14, 58, 59, 60] 2 rfl rfl ?_)
        simp only [go_sem, htk, snocO, ofA, List.map]
        exact Fits.rfl
      | some n =>
        rw [hgo] at hg htk
        simp only [Option.map_some, Option.getD_some] at hg htk
        repeat' (first | refine W.seq fun K hK => ?_ | refine W.block ?_ | ((first | refine wR ?_ | refine wD ?_ | refine W.skip ?_ | refine W.exit ?_ | refine W.ret (Post.ret ?_) | refine aP ?_ | refine aF ?_ | refine aL ?_ | refine aU (hnn := by simp only [go_sem, reduceCtorEq, hkx, e1, e2, hw, hg, imR_len, List.length_map]) ?_ | refine aM ?_ | refine aN ?_ | refine aR ?_); simp only [go_sem, reduceCtorEq, hkx, e1, e2, hw, hg, imR_len, List.length_map]) | refine wT ?_ | refine wF ?_ | refine wC (fun h => ?_) (fun h => ?_) | refine iK ?_ | refine aI2 ?_ | (refine hK _ ?_; clear hK K) | clear hK K)
        refine hKI.to (i + 1) (by omega) (by omega) (Fits.fit [(0, 0), (13, 1)] [11, 14, 58, 59, 60] 2 rfl rfl ?_)
        simp only [go_sem, htk, snocO, ofA, List.map]
        exact Fits.rfl
    · obtain rfl : i = ks.length := by omega
      have e1 : decide ((ks.length : Int) < ks.length) = false := by simp
      clear hKI
      repeat' (first | refine W.seq fun K hK => ?_ | refine W.block ?_ | ((first | refine wR ?_ | refine wD ?_ | refine W.skip ?_ | refine W.exit ?_ | refine W.ret (Post.ret ?_) | refine aP ?_ | refine aF ?_ | refine aL ?_ | refine aU (hnn := by simp only [go_sem, reduceCtorEq, e1, List.take_length, unim_im]) ?_ | refine aM ?_ | refine aN ?_ | refine aR ?_); simp only [go_sem, reduceCtorEq, e1, List.take_length, unim_im]) | refine wT ?_ | refine wF ?_ | refine wC (fun h => ?_) (fun h => ?_) | refine iK ?_ | refine aI2 ?_ | (refine hK _ ?_; clear hK K) | clear hK K)
      simp only [exF, ← hm, ← hks]
end Go.Proofs.YtaaflhmfhnfjhaaGreat
