import Derived.Test.YtaaflhmfhnfjhaaGreatM8
import Derived.Test.YtaaflhmfhnfjhaaGreatM7
import Derived.Test.YtaaflhmfhnfjhaaGreatM6
import Derived.Test.YtaaflhmfhnfjhaaGreatM3
set_option linter.unusedVariables false
set_option linter.unusedSimpArgs false
set_option maxHeartbeats 8000000
set_option maxRecDepth 100000
namespace Go.Proofs.YtaaflhmfhnfjhaaGreat
open Go.RowKit Go.Exe
/-! ### the document's small functions -/
attribute [local irreducible] W AX Run RunD AStep AOp AOpX AStB AStH AStG Fits PCall GCall PostG Post Stop
theorem same_c (l m : List Sg) : PCall Tryz.prog 15 [sgsT l, sgsT m] (ft (.bool (decide (l = m)))) := by
  refine PCall.intro (nt := 26) (rs := [.tmp 4]) Tryz.func15 rfl ⟨by kernel_rfl, by kernel_rfl, by kernel_rfl⟩ (by simp) ?_
  rintro ⟨P, w0, ok0, may, np, pblk⟩ rfl rfl
  refine W.lenB 0 rfl tE66 fun hl0 hl1 => ?_
  refine W.lenB 1 rfl tE66 fun hm0 hm1 => ?_
  rw [List.length_map] at hl1 hm1
  by_cases hlen : l.length = m.length
  · have e1 : ((l.length : Int) != (m.length : Int)) = false := by simp [hlen]
    have e0 : ((l.length : Int) == (m.length : Int)) = true := by simp [hlen]
    repeat' (first | refine W.seq fun K hK => ?_ | refine W.block ?_ | ((first | refine wR ?_ | refine wD ?_ | refine W.skip ?_ | refine W.exit ?_ | refine W.ret (Post.ret ?_) | refine aP ?_ | refine aF ?_ | refine aQ ?_); simp only [go_sem, reduceCtorEq, List.length_map, e0, e1]) | refine wT ?_ | refine wF ?_ | refine wC (fun h => ?_) (fun h => ?_) | refine iK ?_ | refine aI2 ?_ | (refine hK _ ?_; clear hK K) | clear hK K)
    refine W.loopF (T := fun i : Nat => { t := [(0, sgsT l), (1, sgsT m), (5, ft (.int .i64 (i : Nat)))], h := [], nx := 0, ex := [], nt := 26 })
      (Inv := fun i => i ≤ l.length ∧ l.take i = m.take i) (μ := fun i => l.length - i) (x0 := 0) (Fits.fit [] [0, 1, 5] 0 rfl rfl ?_) ⟨Nat.zero_le _, rfl⟩ ?_
    · simp only [go_sem]
      exact Fits.rfl
    rintro i ⟨hi, hinv⟩ KL hKL
    by_cases hlt : i < l.length
    · obtain ⟨x, hx, _, _⟩ := drop_at hlt
      obtain ⟨y, hy, _, _⟩ := drop_at (show i < m.length by omega)
      have e1 : decide ((i : Int) < l.length) = true := by simp; omega
      have e2 : decide (i < l.length) = true := by simp; omega
      have e3 : decide (i < m.length) = true := by simp; omega
      have hw := w64s i (by omega)
      have hG := eqG66
      have hE := fun w => eqSg x y w
      by_cases hxy : x = y
      · rw [decide_eq_true hxy] at hE
        repeat' (first | refine W.seq fun K hK => ?_ | refine W.block ?_ | ((first | refine wR ?_ | refine wD ?_ | refine W.skip ?_ | refine W.exit ?_ | refine W.ret (Post.ret ?_) | refine aP ?_ | refine aF ?_ | refine aQ ?_); simp only [go_sem, reduceCtorEq, List.getElem?_map, hx, hy, sgA, e1, e2, e3, hw, List.length_map]) | refine wT ?_ | refine wF ?_ | refine wC (fun h => ?_) (fun h => ?_) | refine iK ?_ | refine aI2 ?_ | (refine hK _ ?_; clear hK K) | clear hK K)
        refine hKL.to (i + 1) ⟨by omega, by rw [List.take_add_one, List.take_add_one, hx, hy, hinv, hxy]⟩ (by omega) (Fits.fit [] [0, 1, 5] 0 rfl rfl ?_)
        simp only [go_sem]
        exact Fits.rfl
      · rw [decide_eq_false hxy] at hE
        have hne : decide (l = m) = false := decide_eq_false fun e => by
          subst e; rw [hx] at hy; exact hxy (by simpa using hy)
        clear hKL
        repeat' (first | refine W.seq fun K hK => ?_ | refine W.block ?_ | ((first | refine wR ?_ | refine wD ?_ | refine W.skip ?_ | refine W.exit ?_ | refine W.ret (Post.ret ?_) | refine aP ?_ | refine aF ?_ | refine aQ ?_); simp only [go_sem, reduceCtorEq, List.getElem?_map, hx, hy, sgA, e1, e2, e3, hw, List.length_map, hne]) | refine wT ?_ | refine wF ?_ | refine wC (fun h => ?_) (fun h => ?_) | refine iK ?_ | refine aI2 ?_ | (refine hK _ ?_; clear hK K) | clear hK K)
    · obtain rfl : i = l.length := by omega
      have e1 : decide ((l.length : Int) < l.length) = false := by simp
      have heq : decide (l = m) = true := decide_eq_true (by rw [List.take_length, hlen, List.take_length] at hinv; exact hinv)
      clear hKL
      repeat' (first | refine W.seq fun K hK => ?_ | refine W.block ?_ | ((first | refine wR ?_ | refine wD ?_ | refine W.skip ?_ | refine W.exit ?_ | refine W.ret (Post.ret ?_) | refine aP ?_ | refine aF ?_ | refine aQ ?_); simp only [go_sem, reduceCtorEq, e1, heq, List.length_map]) | refine wT ?_ | refine wF ?_ | refine wC (fun h => ?_) (fun h => ?_) | refine iK ?_ | refine aI2 ?_ | (refine hK _ ?_; clear hK K) | clear hK K)
  · have e1 : ((l.length : Int) != (m.length : Int)) = true := by simp; omega
    have e0 : ((l.length : Int) == (m.length : Int)) = false := by simp; omega
    have hne : decide (l = m) = false := decide_eq_false fun e => hlen (by rw [e])
    repeat' (first | refine W.seq fun K hK => ?_ | refine W.block ?_ | ((first | refine wR ?_ | refine wD ?_ | refine W.skip ?_ | refine W.exit ?_ | refine W.ret (Post.ret ?_) | refine aP ?_ | refine aF ?_ | refine aQ ?_); simp only [go_sem, reduceCtorEq, List.length_map, e0, e1, hne]) | refine wT ?_ | refine wF ?_ | refine wC (fun h => ?_) (fun h => ?_) | refine iK ?_ | refine aI2 ?_ | (refine hK _ ?_; clear hK K) | clear hK K)
/-- The place of a span's id, -1 where it has none. -/
def atI (l : List Spn) (id : Int) : Int := match l.findIdx? (fun s => s.id == id) with
  | some i => (i : Nat)
  | none => -1
theorem at18_c (l : List Spn) (id : Int) : PCall Tryz.prog 18 [spsT l, ft (.int .i64 id)] (ft (.int .i64 (atI l id))) := by
  refine PCall.intro (nt := 20) (rs := [.tmp 4]) Tryz.func18 rfl ⟨by kernel_rfl, by kernel_rfl, by kernel_rfl⟩ (by simp) ?_
  rintro ⟨P, w0, ok0, may, np, pblk⟩ rfl rfl
  refine W.lenB 0 rfl tE36 fun hl0 hl1 => ?_
  rw [List.length_map] at hl1
  repeat' (first | refine W.seq fun K hK => ?_ | refine W.block ?_ | ((first | refine wR ?_ | refine wD ?_ | refine W.skip ?_ | refine W.exit ?_ | refine W.ret (Post.ret ?_) | refine aP ?_ | refine aF ?_ | refine aQ ?_); simp only [go_sem, reduceCtorEq]) | refine wT ?_ | refine wF ?_ | refine wC (fun h => ?_) (fun h => ?_) | refine iK ?_ | refine aI2 ?_ | (refine hK _ ?_; clear hK K) | clear hK K)
  refine W.loopF (T := fun i : Nat => { t := [(0, spsT l), (1, ft (.int .i64 id)), (5, ft (.int .i64 (i : Nat)))], h := [], nx := 0, ex := [], nt := 20 })
    (Inv := fun i => i ≤ l.length ∧ ∀ x ∈ l.take i, (x.id == id) = false) (μ := fun i => l.length - i) (x0 := 0) (Fits.fit [] [0, 1, 5] 0 rfl rfl ?_) ⟨Nat.zero_le _, by simp⟩ ?_
  · simp only [go_sem]
    exact Fits.rfl
  rintro i ⟨hi, hinv⟩ KL hKL
  by_cases hlt : i < l.length
  · obtain ⟨s, hx, hm, hd⟩ := drop_at hlt
    have e1 : decide ((i : Int) < l.length) = true := by simp; omega
    have e2 : decide (i < l.length) = true := by simp; omega
    have hw := w64s i (by omega)
    cases hc : s.id == id
    · repeat' (first | refine W.seq fun K hK => ?_ | refine W.block ?_ | ((first | refine wR ?_ | refine wD ?_ | refine W.skip ?_ | refine W.exit ?_ | refine W.ret (Post.ret ?_) | refine aP ?_ | refine aF ?_ | refine aQ ?_); simp only [go_sem, reduceCtorEq, List.getElem?_map, hx, spA, e1, e2, hw, hc, List.length_map]) | refine wT ?_ | refine wF ?_ | refine wC (fun h => ?_) (fun h => ?_) | refine iK ?_ | refine aI2 ?_ | (refine hK _ ?_; clear hK K) | clear hK K)
      refine hKL.to (i + 1) ⟨by omega, fun y hy => ?_⟩ (by omega) (Fits.fit [] [0, 1, 5] 0 rfl rfl ?_)
      · rw [List.take_add_one, hx] at hy
        rcases List.mem_append.1 hy with hy | hy
        · exact hinv y hy
        · simp at hy; subst hy; exact hc
      · simp only [go_sem]
        exact Fits.rfl
    · have hf : atI l id = (i : Nat) := by
        unfold atI
        have : l.findIdx? (fun s => s.id == id) = some i := by
          rw [List.findIdx?_eq_some_iff_getElem]
          obtain ⟨h1, h2⟩ := List.getElem?_eq_some_iff.1 hx
          refine ⟨h1, by rw [h2]; exact hc, fun j hj => ?_⟩
          have := hinv l[j] (List.mem_of_getElem? (i := j) (by rw [List.getElem?_take, if_pos hj, List.getElem?_eq_getElem]))
          simp [this]
        rw [this]
      clear hKL
      repeat' (first | refine W.seq fun K hK => ?_ | refine W.block ?_ | ((first | refine wR ?_ | refine wD ?_ | refine W.skip ?_ | refine W.exit ?_ | refine W.ret (Post.ret ?_) | refine aP ?_ | refine aF ?_ | refine aQ ?_); simp only [go_sem, reduceCtorEq, List.getElem?_map, hx, spA, e1, e2, hw, hc, List.length_map, hf]) | refine wT ?_ | refine wF ?_ | refine wC (fun h => ?_) (fun h => ?_) | refine iK ?_ | refine aI2 ?_ | (refine hK _ ?_; clear hK K) | clear hK K)
  · obtain rfl : i = l.length := by omega
    have e1 : decide ((l.length : Int) < l.length) = false := by simp
    have hf : atI l id = -1 := by
      unfold atI
      rw [List.take_length] at hinv
      have : l.findIdx? (fun s => s.id == id) = none := by
        rw [List.findIdx?_eq_none_iff]; exact hinv
      rw [this]
    clear hKL
    repeat' (first | refine W.seq fun K hK => ?_ | refine W.block ?_ | ((first | refine wR ?_ | refine wD ?_ | refine W.skip ?_ | refine W.exit ?_ | refine W.ret (Post.ret ?_) | refine aP ?_ | refine aF ?_ | refine aQ ?_); simp only [go_sem, reduceCtorEq, e1, hf, List.length_map]) | refine wT ?_ | refine wF ?_ | refine wC (fun h => ?_) (fun h => ?_) | refine iK ?_ | refine aI2 ?_ | (refine hK _ ?_; clear hK K) | clear hK K)
theorem event51_c (s : Spn) (e : Bool) : PCall Tryz.prog 51 [spT s, ft (.bool e)] (evT (evOf s e)) := by
  have c1 := refOf_c s
  simp only [spT, spA, refA, evA, evOf, List.map] at c1 ⊢
  refine PCall.intro (nt := 9) (rs := [.cell 4 52]) Tryz.func51 rfl ⟨by kernel_rfl, by kernel_rfl, by kernel_rfl⟩ (by simp) ?_
  rintro ⟨P, w0, ok0, may, np, pblk⟩ rfl rfl
  repeat' (first | refine W.seq fun K hK => ?_ | refine W.block ?_ | ((first | refine wR ?_ | refine wD ?_ | refine W.skip ?_ | refine W.exit ?_ | refine W.ret (Post.ret ?_) | refine aP ?_ | refine aF ?_ | refine aQ ?_); simp only [go_sem, reduceCtorEq]) | refine wT ?_ | refine wF ?_ | refine wC (fun h => ?_) (fun h => ?_) | refine iK ?_ | refine aI2 ?_ | (refine hK _ ?_; clear hK K) | clear hK K)
  rfl
end Go.Proofs.YtaaflhmfhnfjhaaGreat
namespace Go.Proofs.YtaaflhmfhnfjhaaGreat
open Go.RowKit Go.Exe
/-- The first offset of a clock. -/
def offI (v : List Of) (c : Int) : Int := match v.find? (fun x => x.1 == c) with
  | some x => x.2
  | none => 0
attribute [local irreducible] W AX Run RunD AStep AOp AOpX AStB AStH AStG Fits PCall GCall PostG Post Stop
theorem offset48_c (v : List Of) (c : Int) : PCall Tryz.prog 48 [ofsT v, ft (.int .i64 c)] (ft (.int .i64 (offI v c))) := by
  refine PCall.intro (nt := 24) (rs := [.tmp 4]) Tryz.func48 rfl ⟨by kernel_rfl, by kernel_rfl, by kernel_rfl⟩ (by simp) ?_
  rintro ⟨P, w0, ok0, may, np, pblk⟩ rfl rfl
  refine W.lenB 0 rfl tE80 fun hl0 hl1 => ?_
  rw [List.length_map] at hl1
  repeat' (first | refine W.seq fun K hK => ?_ | refine W.block ?_ | ((first | refine wR ?_ | refine wD ?_ | refine W.skip ?_ | refine W.exit ?_ | refine W.ret (Post.ret ?_) | refine aP ?_ | refine aF ?_); simp only [go_sem, reduceCtorEq]) | refine wT ?_ | refine wF ?_ | refine wC (fun h => ?_) (fun h => ?_) | refine iK ?_ | refine aI2 ?_ | (refine hK _ ?_; clear hK K) | clear hK K)
  refine W.loopF (T := fun i : Nat => { t := [(0, ofsT v), (1, ft (.int .i64 c)), (5, ft (.int .i64 (i : Nat)))], h := [], nx := 0, ex := [], nt := 24 })
    (Inv := fun i => i ≤ v.length ∧ ∀ x ∈ v.take i, (x.1 == c) = false) (μ := fun i => v.length - i) (x0 := 0) (Fits.fit [] [0, 1, 5] 0 rfl rfl ?_) ⟨Nat.zero_le _, by simp⟩ ?_
  · simp only [go_sem]
    exact Fits.rfl
  rintro i ⟨hi, hinv⟩ KL hKL
  by_cases hlt : i < v.length
  · obtain ⟨s, hx, hm, hd⟩ := drop_at hlt
    have e1 : decide ((i : Int) < v.length) = true := by simp; omega
    have e2 : decide (i < v.length) = true := by simp; omega
    have hw := w64s i (by omega)
    cases hc : s.1 == c
    · repeat' (first | refine W.seq fun K hK => ?_ | refine W.block ?_ | ((first | refine wR ?_ | refine wD ?_ | refine W.skip ?_ | refine W.exit ?_ | refine W.ret (Post.ret ?_) | refine aP ?_ | refine aF ?_); simp only [go_sem, reduceCtorEq, List.getElem?_map, hx, ofA, e1, e2, hw, hc, List.length_map]) | refine wT ?_ | refine wF ?_ | refine wC (fun h => ?_) (fun h => ?_) | refine iK ?_ | refine aI2 ?_ | (refine hK _ ?_; clear hK K) | clear hK K)
      refine hKL.to (i + 1) ⟨by omega, fun y hy => ?_⟩ (by omega) (Fits.fit [] [0, 1, 5] 0 rfl rfl ?_)
      · rw [List.take_add_one, hx] at hy
        rcases List.mem_append.1 hy with hy | hy
        · exact hinv y hy
        · simp at hy; subst hy; exact hc
      · simp only [go_sem]
        exact Fits.rfl
    · have hf : offI v c = s.2 := by
        unfold offI
        have : v.find? (fun x => x.1 == c) = some s := by
          rw [List.find?_eq_some_iff_getElem]
          obtain ⟨h1, h2⟩ := List.getElem?_eq_some_iff.1 hx
          refine ⟨hc, i, h1, h2, fun j hj => ?_⟩
          have := hinv v[j] (List.mem_of_getElem? (i := j) (by rw [List.getElem?_take, if_pos hj, List.getElem?_eq_getElem]))
          simp [this]
        rw [this]
      clear hKL
      repeat' (first | refine W.seq fun K hK => ?_ | refine W.block ?_ | ((first | refine wR ?_ | refine wD ?_ | refine W.skip ?_ | refine W.exit ?_ | refine W.ret (Post.ret ?_) | refine aP ?_ | refine aF ?_); simp only [go_sem, reduceCtorEq, List.getElem?_map, hx, ofA, e1, e2, hw, hc, List.length_map, hf]) | refine wT ?_ | refine wF ?_ | refine wC (fun h => ?_) (fun h => ?_) | refine iK ?_ | refine aI2 ?_ | (refine hK _ ?_; clear hK K) | clear hK K)
  · obtain rfl : i = v.length := by omega
    have e1 : decide ((v.length : Int) < v.length) = false := by simp
    have hf : offI v c = 0 := by
      unfold offI
      rw [List.take_length] at hinv
      have : v.find? (fun x => x.1 == c) = none := by
        rw [List.find?_eq_none]; exact fun x hx => by simp [hinv x hx]
      rw [this]
    clear hKL
    repeat' (first | refine W.seq fun K hK => ?_ | refine W.block ?_ | ((first | refine wR ?_ | refine wD ?_ | refine W.skip ?_ | refine W.exit ?_ | refine W.ret (Post.ret ?_) | refine aP ?_ | refine aF ?_); simp only [go_sem, reduceCtorEq, e1, hf, List.length_map]) | refine wT ?_ | refine wF ?_ | refine wC (fun h => ?_) (fun h => ?_) | refine iK ?_ | refine aI2 ?_ | (refine hK _ ?_; clear hK K) | clear hK K)
end Go.Proofs.YtaaflhmfhnfjhaaGreat
namespace Go.Proofs.YtaaflhmfhnfjhaaGreat
open Go.RowKit Go.Exe
theorem getO_put (m : List Of) (x : Of) (k : Int) : getO (putO m x) k = if x.1 = k then some x.2 else getO m k := by
  induction m with
  | nil => simp [putO, getO]
  | cons y r ih =>
    simp only [putO, getO]
    by_cases h : y.1 = x.1
    · rw [if_pos h]
      simp only [getO]
      by_cases h2 : x.1 = k
      · simp [h2]
      · have : ¬ y.1 = k := by rw [h]; exact h2
        simp [h2, this]
    · rw [if_neg h]
      simp only [getO, ih]
      by_cases h2 : y.1 = k
      · have : ¬ x.1 = k := fun e => h (by rw [h2, e])
        simp [h2, this]
      · simp [h2]
theorem gapB_any (v : List Of) (s : Spn) : gapB v s = !(v.any fun x => x.1 == s.clk) := by
  unfold gapB offM
  have key : ∀ (v m : List Of), (getO (v.foldl putO m) s.clk).isNone = ((getO m s.clk).isNone && !(v.any fun x => x.1 == s.clk)) := by
    intro v
    induction v with
    | nil => simp
    | cons x v ih =>
      intro m
      rw [List.foldl_cons, ih, getO_put]
      by_cases h : x.1 = s.clk
      · simp [h]
      · have h2 : (x.1 == s.clk) = false := by rw [beq_eq_false_iff_ne]; exact h
        rw [if_neg h, List.any_cons, h2, Bool.false_or]
  rw [key]
  simp [getO]
attribute [local irreducible] W AX Run RunD AStep AOp AOpX AStB AStH AStG Fits PCall GCall PostG Post Stop
end Go.Proofs.YtaaflhmfhnfjhaaGreat
namespace Go.Proofs.YtaaflhmfhnfjhaaGreat
open Go.RowKit Go.Exe
/-- The offsets of a story's clocks. -/
def offT (s : Sto) (n : Nat) : List Of := (List.range n).map fun k => (((k + 1 : Nat) : Int), offC s (k + 1))
theorem offT_step (s : Sto) (n : Nat) : offT s (n + 1) = offT s n ++ [(((n + 1 : Nat) : Int), offC s (n + 1))] := by
  simp [offT, List.range_succ]
attribute [local irreducible] W AX Run RunD AStep AOp AOpX AStB AStH AStG Fits PCall GCall PostG Post Stop
theorem offsets34_c (s : Sto) (hs : s.ok) : PCall Tryz.prog 34 [stoT s] (ofsT (offT s 4)) := by
  have co := fun k h1 h4 => off_c s hs k h1 h4
  simp only [stoT, stoA, List.map] at co ⊢
  refine PCall.intro (nt := 18) (rs := [.tmp 2]) Tryz.func34 rfl ⟨by kernel_rfl, by kernel_rfl, by kernel_rfl⟩ (by simp) ?_
  rintro ⟨P, w0, ok0, may, np, pblk⟩ rfl rfl
  repeat' (first | refine W.seq fun K hK => ?_ | refine W.block ?_ | ((first | refine wR ?_ | refine wD ?_ | refine W.skip ?_ | refine W.exit ?_ | refine W.ret (Post.ret ?_) | refine aP ?_ | refine aF ?_); simp only [go_sem, reduceCtorEq]) | refine wT ?_ | refine wF ?_ | refine wC (fun h => ?_) (fun h => ?_) | refine iK ?_ | refine aI2 ?_ | (refine hK _ ?_; clear hK K) | clear hK K)
  refine W.loopF (T := fun i : Nat => { t := [(1, .c (.ptr 0 0)), (3, .c (.ref 1)), (4, ft (.int .i64 ((i + 1 : Nat) : Int)))], h := [(0, .box 27 ((stoA s).map .im)), (1, .row 80 (imR ((offT s i).map ofA)))], nx := 2, ex := [], nt := 18 })
    (Inv := fun i => i ≤ 4) (μ := fun i => 4 - i) (x0 := 0) ?_ (Nat.zero_le _) ?_
  · refine Fits.adopt 3 99 80 rfl rfl rfl tE80 rfl ?_
    refine Fits.fit [(0, 0), (99, 1)] [1, 3, 4] 2 rfl rfl ?_
    simp only [go_sem, stoA, offT, List.range_zero, List.map, imR_nil]
    exact Fits.rfl
  rintro i hi KL hKL
  have hol : (offT s i).length = i := by simp [offT]
  by_cases hlt : i < 4
  · have c1 := co (i + 1) (by omega) (by omega)
    have e1 : decide (((i + 1 : Nat) : Int) ≤ 4) = true := by simp; omega
    have hw := w64s (i + 1) (by omega)
    clear co
    simp only [stoA, List.map]
    repeat' (first | refine W.seq fun K hK => ?_ | refine W.block ?_ | ((first | refine wR ?_ | refine wD ?_ | refine W.skip ?_ | refine W.exit ?_ | refine W.ret (Post.ret ?_) | refine aP ?_ | refine aF ?_); simp only [go_sem, reduceCtorEq, e1, hw, imR_len, List.length_map, hol]) | refine wT ?_ | refine wF ?_ | refine wC (fun h => ?_) (fun h => ?_) | refine iK ?_ | refine aI2 ?_ | (refine hK _ ?_; clear hK K) | clear hK K)
    refine hKL.to (i + 1) (by omega) (by omega) (Fits.fit [(0, 0), (11, 1)] [1, 3, 4] 2 rfl rfl ?_)
    simp only [go_sem, stoA, offT_step, snocO, ofA, List.map]
    exact Fits.rfl
  · obtain rfl : i = 4 := by omega
    have e1 : decide (((4 + 1 : Nat) : Int) ≤ 4) = false := by decide
    clear hKL co
    repeat' (first | refine W.seq fun K hK => ?_ | refine W.block ?_ | ((first | refine wR ?_ | refine wD ?_ | refine W.skip ?_ | refine W.exit ?_ | refine W.ret (Post.ret ?_) | refine aP ?_ | refine aF ?_); simp only [go_sem, reduceCtorEq, e1, unim_im]) | refine wT ?_ | refine wF ?_ | refine wC (fun h => ?_) (fun h => ?_) | refine iK ?_ | refine aI2 ?_ | (refine hK _ ?_; clear hK K) | clear hK K)
/-- The example's spans. -/
def exS : List Spn := [⟨1, 1, 0, 0, 1, 1, ⟨#[97]⟩, .empty, ⟨#[111]⟩, 0, 100, false, [], []⟩, ⟨1, 2, 1, 0, 1, 1, ⟨#[98]⟩, .empty, ⟨#[111]⟩, 10, 40, false, [], []⟩, ⟨1, 3, 1, 0, 2, 1, ⟨#[99]⟩, .empty, ⟨#[111]⟩, 30, 90, false, [], []⟩]
end Go.Proofs.YtaaflhmfhnfjhaaGreat
namespace Go.Proofs.YtaaflhmfhnfjhaaGreat
open Go.RowKit Go.Exe
def spN (s : Spn) : List AV := [.flat (.int .i64 s.tr), .flat (.int .i64 s.id), .flat (.int .i64 s.pa), .flat (.int .i64 s.rev), .flat (.int .i64 s.clk), .flat (.int .i64 s.kd), .flat (.string s.sv), .flat (.string s.ve), .flat (.string s.op), .flat (.int .i64 s.st), .flat (.int .i64 s.en), .flat (.bool s.er), .flat (.slice none 0 0), .flat (.slice none 0 0)]
theorem spN_le {s : Spn} (h1 : s.ats = []) (h2 : s.lks = []) : Al ALe (spN s) (spA s) := by
  unfold spN spA
  rw [h1, h2]
  exact Al.cons .rfl (Al.cons .rfl (Al.cons .rfl (Al.cons .rfl (Al.cons .rfl (Al.cons .rfl (Al.cons .rfl (Al.cons .rfl (Al.cons .rfl (Al.cons .rfl (Al.cons .rfl (Al.cons .rfl (Al.cons .nil (Al.cons .nil Al.nil)))))))))))))
attribute [local irreducible] W AX Run RunD AStep AOp AOpX AStB AStH AStG Fits PCall GCall PostG Post Stop
theorem example_c : PCall Tryz.prog 31 [] (spsT exS) := by
  refine PCall.slLe (xs := exS.map spN) ?_ (Al.cons (spN_le rfl rfl) (Al.cons (spN_le rfl rfl) (Al.cons (spN_le rfl rfl) Al.nil)))
  refine PCall.intro (nt := 5) (rs := [.tmp 0]) Tryz.func31 rfl ⟨by kernel_rfl, by kernel_rfl, by kernel_rfl⟩ (by simp) ?_
  rintro ⟨P, w0, ok0, may, np, pblk⟩ rfl rfl
  repeat' (first | refine W.seq fun K hK => ?_ | refine W.block ?_ | ((first | refine wR ?_ | refine wD ?_ | refine W.skip ?_ | refine W.exit ?_ | refine W.ret (Post.ret ?_) | refine aP ?_ | refine aF ?_); simp only [go_sem, reduceCtorEq]) | refine wT ?_ | refine wF ?_ | refine wC (fun h => ?_) (fun h => ?_) | refine iK ?_ | refine aI2 ?_ | (refine hK _ ?_; clear hK K) | clear hK K)
  rfl
end Go.Proofs.YtaaflhmfhnfjhaaGreat
namespace Go.Proofs.YtaaflhmfhnfjhaaGreat
open Go.RowKit Go.Exe
/-- The story's first tree, where the story is told. -/
def turnT (s : Sto) : Option Tre := if shortS s then (match s.ts[0]? with | some t => if t.cs.length = 0 then none else some t | none => none) else none
def rotL (l : List Spn) (u : Nat) : List Spn := l.drop (u % l.length) ++ l.take (u % l.length)
abbrev turnR (r : Option (List Spn × List Of)) : TV := .t [(false, [.im (.sl 36 (((r.map (·.1)).getD []).map spA))]), (false, [.im (.sl 80 (((r.map (·.2)).getD []).map ofA))]), (false, [fl (.bool r.isSome)])]
def turnF (s : Sto) (u : Nat) : Option (List Spn × List Of) := (turnT s).map fun t => (rotL (trcS s 0 t) u, offT s 4)
theorem turnErr {args : List TV} {f : Nat} (h : PCall Tryz.prog f args (.t [(false, [fl (.slice none 0 0)]), (false, [fl (.slice none 0 0)]), (false, [fl (.bool false)])])) : PCall Tryz.prog f args (turnR none) :=
  PCall.conv (args' := args) h (Al.refl (fun _ => TLe.rfl) _) (TLe.t (Al.cons ⟨rfl, Al.cons CLe.nil Al.nil⟩ (Al.cons ⟨rfl, Al.cons CLe.nil Al.nil⟩ (Al.cons ⟨rfl, Al.cons CLe.rfl Al.nil⟩ Al.nil))))
attribute [local irreducible] W AX Run RunD AStep AOp AOpX AStB AStH AStG Fits PCall GCall PostG Post Stop
theorem turned_c (s : Sto) (hs : s.ok) (u : Nat) (hu : u < 256) : PCall Tryz.prog 12 [stoT s, ft (.int .u8 (u : Nat))] (turnR (turnF s u)) := by
  have c32 := short_c s
  have c34 := offsets34_c s hs
  cases hsh : shortS s with
  | false =>
    have : turnF s u = none := by simp [turnF, turnT, hsh]
    rw [this]
    refine turnErr ?_
    rw [hsh] at c32
    clear c34
    simp only [stoT, stoA, List.map] at c32 ⊢
    refine PCall.intro (nt := 45) (rs := [.tmp 4, .tmp 5, .tmp 6]) Tryz.func12 rfl ⟨by kernel_rfl, by kernel_rfl, by kernel_rfl⟩ (by simp) ?_
    rintro ⟨P, w0, ok0, may, np, pblk⟩ rfl rfl
    repeat' (first | refine W.seq fun K hK => ?_ | refine W.block ?_ | ((first | refine wR ?_ | refine wD ?_ | refine W.skip ?_ | refine W.exit ?_ | refine W.ret (Post.ret ?_) | refine aP ?_ | refine aF ?_); simp only [go_sem, reduceCtorEq]) | refine wT ?_ | refine wF ?_ | refine wC (fun h => ?_) (fun h => ?_) | refine iK ?_ | refine aI2 ?_ | (refine hK _ ?_; clear hK K) | clear hK K)
  | true =>
    rw [hsh] at c32
    cases ht : s.ts[0]? with
    | none =>
      have : turnF s u = none := by simp [turnF, turnT, hsh, ht]
      have h0 : s.ts.length = 0 := by
        rw [List.getElem?_eq_none_iff] at ht; omega
      rw [this]
      refine turnErr ?_
      clear c34
      have e1 : ((s.ts.length : Int) == 0) = true := by simp [h0]
      simp only [stoT, stoA, List.map] at c32 ⊢
      refine PCall.intro (nt := 45) (rs := [.tmp 4, .tmp 5, .tmp 6]) Tryz.func12 rfl ⟨by kernel_rfl, by kernel_rfl, by kernel_rfl⟩ (by simp) ?_
      rintro ⟨P, w0, ok0, may, np, pblk⟩ rfl rfl
      repeat' (first | refine W.seq fun K hK => ?_ | refine W.block ?_ | ((first | refine wR ?_ | refine wD ?_ | refine W.skip ?_ | refine W.exit ?_ | refine W.ret (Post.ret ?_) | refine aP ?_ | refine aF ?_); simp only [go_sem, reduceCtorEq, List.length_map, e1]) | refine wT ?_ | refine wF ?_ | refine wC (fun h => ?_) (fun h => ?_) | refine iK ?_ | refine aI2 ?_ | (refine hK _ ?_; clear hK K) | clear hK K)
    | some t =>
      have h0 : 0 < s.ts.length := (List.getElem?_eq_some_iff.1 ht).1
      have e1 : ((s.ts.length : Int) == 0) = false := by rw [beq_eq_false_iff_ne]; omega
      by_cases hc : t.cs.length = 0
      · have : turnF s u = none := by simp [turnF, turnT, hsh, ht, hc]
        rw [this]
        refine turnErr ?_
        clear c34
        have e2 : ((t.cs.length : Int) == 0) = true := by simp [hc]
        have e3 : decide (0 < s.ts.length) = true := by simp [h0]
        simp only [stoT, stoA, List.map] at c32 ⊢
        refine PCall.intro (nt := 45) (rs := [.tmp 4, .tmp 5, .tmp 6]) Tryz.func12 rfl ⟨by kernel_rfl, by kernel_rfl, by kernel_rfl⟩ (by simp) ?_
        rintro ⟨P, w0, ok0, may, np, pblk⟩ rfl rfl
        repeat' (first | refine W.seq fun K hK => ?_ | refine W.block ?_ | ((first | refine wR ?_ | refine wD ?_ | refine W.skip ?_ | refine W.exit ?_ | refine W.ret (Post.ret ?_) | refine aP ?_ | refine aF ?_); simp only [go_sem, reduceCtorEq, List.length_map, List.getElem?_map, ht, treA, e1, e2, e3]) | refine wT ?_ | refine wF ?_ | refine wC (fun h => ?_) (fun h => ?_) | refine iK ?_ | refine aI2 ?_ | (refine hK _ ?_; clear hK K) | clear hK K)
      · have hF : turnF s u = some (rotL (trcS s 0 t) u, offT s 4) := by simp [turnF, turnT, hsh, ht, hc]
        rw [hF]
        have e2 : ((t.cs.length : Int) == 0) = false := by rw [beq_eq_false_iff_ne]; omega
        have e3 : decide (0 < s.ts.length) = true := by simp [h0]
        have ct := strace_c s hs 0 t ht (by omega)
        simp only [stoT, stoA, List.map] at c32 c34 ct ⊢
        refine PCall.intro (nt := 45) (rs := [.tmp 4, .tmp 5, .tmp 6]) Tryz.func12 rfl ⟨by kernel_rfl, by kernel_rfl, by kernel_rfl⟩ (by simp) ?_
        rintro ⟨P, w0, ok0, may, np, pblk⟩ rfl rfl
        have hl := trcS_len s 0 t
        have htc := (hs.1 t (List.mem_of_getElem? ht)).2.2.2
        unfold rotL
        generalize trcS s 0 t = L at *
        have hLl : 0 < L.length := by omega
        have e4 : ((L.length : Int) == 0) = false := by rw [beq_eq_false_iff_ne]; omega
        have q1 := w64n u (by omega)
        have q2 := tm u L.length
        have hk : u % L.length < L.length := Nat.mod_lt _ hLl
        generalize u % L.length = k at *
        have q3 := w64n k (by omega)
        have e5 : decide ((k : Int) ≤ L.length) = true := by simp; omega
        have e6 : decide (k ≤ L.length) = true := by simp; omega
        repeat' (first | refine W.seq fun K hK => ?_ | refine W.block ?_ | ((first | refine wR ?_ | refine wD ?_ | refine W.skip ?_ | refine W.exit ?_ | refine W.ret (Post.ret ?_) | refine aP ?_ | refine aF ?_); simp only [go_sem, reduceCtorEq, List.length_map, List.getElem?_map, ht, treA, e1, e2, e3, e4, q1, q2, q3, e5, e6]) | refine wT ?_ | refine wF ?_ | refine wC (fun h => ?_) (fun h => ?_) | refine iK ?_ | refine aI2 ?_ | (refine hK _ ?_; clear hK K) | clear hK K)
        have hrow : imR (List.drop k (List.take L.length (List.map spA L))) ++ imR (List.take k (List.map spA L)) = imR ((L.drop k ++ L.take k).map spA) := by
          rw [List.take_of_length_le (by simp), List.map_append, imR_app, List.map_drop, List.map_take]
        simp only [hrow, unim_im]
        rfl
end Go.Proofs.YtaaflhmfhnfjhaaGreat
namespace Go.Proofs.YtaaflhmfhnfjhaaGreat
open Go.RowKit Go.Exe
/-! ### the document's clocks -/
def timM (L : List Spn) (v : List Of) (x : Ev) : Int := match L.findIdx? (fun s => s.id == x.id) with
  | some i => match L[i]? with
    | some s => IntKind.i64.wrap (atS s x.en - offI v s.clk)
    | none => 0
  | none => 0
def prA (x : Ev × Ev) : List AV := evA x.1 ++ evA x.2
abbrev clO (L : List Spn) (v : List Of) (q : List (Ev × Ev)) (n : Int) : Exe.Obj := .nbox 58 [.im (.sl 36 (L.map spA)), .im (.sl 80 (v.map ofA)), .orow 193 (q.map prA), fl (.int .i64 n)]
attribute [local irreducible] W AX Run RunD AStep AOp AOpX AStB AStH AStG Fits PCall GCall PostG Post Stop
theorem time23_c (L : List Spn) (v : List Of) (q : List (Ev × Ev)) (n : Int) (x : Ev) : GCall Tryz.prog 23 1 (St.g [.c (.ptr 0 0), evT x] [(0, clO L v q n)] 1) (St.r (ft (.int .i64 (timM L v x))) [(0, clO L v q n)] 1) := by
  have c18 := at18_c L x.id
  have c47 := fun s => at_c0 s x.en
  have c48 := fun c => offset48_c v c
  simp only [evT, evA, List.map]
  cases hi : L.findIdx? (fun s => s.id == x.id) with
  | none =>
    have ha : atI L x.id = -1 := by simp [atI, hi]
    have hT : timM L v x = 0 := by simp [timM, hi]
    rw [ha] at c18
    rw [hT]
    have e1 : decide ((-1 : Int) < 0) = true := by decide
    clear c47 c48
    refine GCall.introG (nt := 40) (rs := [.tmp 4]) Tryz.func23 rfl ⟨by kernel_rfl, by kernel_rfl, by kernel_rfl⟩ (by simp) ?_
    rintro ⟨P, w0, ok0, may, np, pblk⟩ rfl rfl
    simp only [go_sem]
    repeat' (first | refine W.seq fun K hK => ?_ | refine W.block ?_ | ((first | refine wR ?_ | refine wD ?_ | refine W.skip ?_ | refine W.exit ?_ | refine W.ret (Post.ret ?_) | refine aP ?_ | refine aF ?_); simp only [go_sem, reduceCtorEq, e1]) | refine wT ?_ | refine wF ?_ | refine wC (fun h => ?_) (fun h => ?_) | refine iK ?_ | refine aI2 ?_ | (refine hK _ ?_; clear hK K) | clear hK K)
    refine W.ret (PostG.ret (Fits.fit [(0, 0)] [4] 1 rfl rfl Fits.rfl) rfl rfl ?_)
    simp only [St.r, go_sem]
  | some i =>
    have hil : i < L.length := (List.findIdx?_eq_some_iff_getElem.1 hi).1
    obtain ⟨s, hx, hm, _⟩ := drop_at hil
    have ha : atI L x.id = (i : Nat) := by simp [atI, hi]
    have hT : timM L v x = IntKind.i64.wrap (atS s x.en - offI v s.clk) := by simp [timM, hi, hx]
    rw [ha] at c18
    rw [hT]
    have e1 : decide ((i : Int) < 0) = false := by simp
    have e2 : decide (i < L.length) = true := by simp [hil]
    have c1 := c47 s
    have c2 := c48 s.clk
    clear c47 c48 hi hT ha
    simp only [spT, spA, List.map] at c1
    refine GCall.introG (nt := 40) (rs := [.tmp 4]) Tryz.func23 rfl ⟨by kernel_rfl, by kernel_rfl, by kernel_rfl⟩ (by simp) ?_
    rintro ⟨P, w0, ok0, may, np, pblk⟩ rfl rfl
    simp only [go_sem]
    repeat' (first | refine W.seq fun K hK => ?_ | refine W.block ?_ | ((first | refine wR ?_ | refine wD ?_ | refine W.skip ?_ | refine W.exit ?_ | refine W.ret (Post.ret ?_) | refine aP ?_ | refine aF ?_); simp only [go_sem, reduceCtorEq, List.getElem?_map, hx, spA, e1, e2, List.length_map]) | refine wT ?_ | refine wF ?_ | refine wC (fun h => ?_) (fun h => ?_) | refine iK ?_ | refine aI2 ?_ | (refine hK _ ?_; clear hK K) | clear hK K)
    refine W.ret (PostG.ret (Fits.fit [(0, 0)] [4] 1 rfl rfl Fits.rfl) rfl rfl ?_)
    simp only [St.r, go_sem]
end Go.Proofs.YtaaflhmfhnfjhaaGreat
namespace Go.Proofs.YtaaflhmfhnfjhaaGreat
open Go.RowKit Go.Exe
attribute [local irreducible] W AX Run RunD AStep AOp AOpX AStB AStH AStG Fits PCall GCall PostG Post Stop
end Go.Proofs.YtaaflhmfhnfjhaaGreat
namespace Go.Proofs.YtaaflhmfhnfjhaaGreat
open Go.RowKit Go.Exe
/-! ### the document's walker: ask -/
attribute [local irreducible] W AX Run RunD AStep AOp AOpX AStB AStH AStG Fits PCall GCall PostG Post Stop
end Go.Proofs.YtaaflhmfhnfjhaaGreat
namespace Go.Proofs.YtaaflhmfhnfjhaaGreat
open Go.RowKit Go.Exe
def bfM (L : List Spn) (v : List Of) (x y : Ev) : Bool := decide (timM L v x < timM L v y)
end Go.Proofs.YtaaflhmfhnfjhaaGreat
namespace Go.Proofs.YtaaflhmfhnfjhaaGreat
open Go.RowKit Go.Exe
/-! ### the document's sorted -/
attribute [local irreducible] W AX Run RunD AStep AOp AOpX AStB AStH AStG Fits PCall GCall PostG Post Stop
end Go.Proofs.YtaaflhmfhnfjhaaGreat
namespace Go.Proofs.YtaaflhmfhnfjhaaGreat
open Go.RowKit Go.Exe
end Go.Proofs.YtaaflhmfhnfjhaaGreat
namespace Go.Proofs.YtaaflhmfhnfjhaaGreat
open Go.RowKit Go.Exe
theorem kidF_is (l : List Spn) (k : Int) : kidF (kidM l) k = (srtId l).filter fun s => blk s && s.pa == k := getK_km (srtId l) k
theorem getT_put (m : TM) (x : Ev × Int) (k : Ev) : getT (putT m x) k = if x.1 = k then some x.2 else getT m k := by
  induction m with
  | nil => simp [putT, getT]
  | cons y r ih =>
    simp only [putT, getT]
    by_cases h : y.1 = x.1
    · rw [if_pos h]
      simp only [getT]
      by_cases h2 : x.1 = k
      · simp [h2]
      · have : ¬ y.1 = k := by rw [h]; exact h2
        simp [h2, this]
    · rw [if_neg h]
      simp only [getT, ih]
      by_cases h2 : y.1 = k
      · have : ¬ x.1 = k := fun e => h (by rw [h2, e])
        simp [h2, this]
      · simp [h2]
theorem evOf_ne {a b : Spn} (h : a.id ≠ b.id) (e f : Bool) : evOf a e ≠ evOf b f := fun x => h (by simpa [evOf] using congrArg Ev.id x)
/-- The time that Path's map holds for an event of the set. -/
theorem tmv_is {l : List Spn} (v : List Of) (hn : (idsOf l).Nodup) {s : Spn} (hs : s ∈ l) (e : Bool) : tmv (tmN l v l.length) (evOf s e) = atV v s e := by
  have out : ∀ (l : List Spn) (m : TM), s.id ∉ idsOf l → getT (l.foldl (fun m s => putT (putT m (evOf s false, atV v s false)) (evOf s true, atV v s true)) m) (evOf s e) = getT m (evOf s e) := by
    intro l
    induction l with
    | nil => exact fun m _ => rfl
    | cons x l ih =>
      intro m h
      simp only [idsOf, List.map_cons, List.mem_cons, not_or] at h
      rw [List.foldl_cons, ih _ h.2, getT_put, getT_put, if_neg (evOf_ne (fun e => h.1 e.symm) _ _), if_neg (evOf_ne (fun e => h.1 e.symm) _ _)]
  have key : ∀ (l : List Spn) (m : TM), (idsOf l).Nodup → s ∈ l → getT (l.foldl (fun m s => putT (putT m (evOf s false, atV v s false)) (evOf s true, atV v s true)) m) (evOf s e) = some (atV v s e) := by
    intro l
    induction l with
    | nil => intro m _ h; simp at h
    | cons x l ih =>
      intro m hn h
      simp only [idsOf, List.map_cons, List.nodup_cons] at hn
      rw [List.foldl_cons]
      rcases List.mem_cons.1 h with rfl | h
      · rw [out l _ hn.1, getT_put, getT_put]
        cases e
        · rw [if_neg (by simp [evOf]), if_pos rfl]
        · rw [if_pos rfl]
      · exact ih _ hn.2 h
  unfold tmv tmN
  rw [List.take_length, key l [] hn hs]
  rfl
end Go.Proofs.YtaaflhmfhnfjhaaGreat
namespace Go.Proofs.YtaaflhmfhnfjhaaGreat
open Go.RowKit Go.Exe
theorem off_eq {v : List Of} (hn : (v.map (·.1)).Nodup) (k : Int) : offK v k = offI v k := by
  have out : ∀ (v m : List Of), k ∉ v.map (·.1) → getO (v.foldl putO m) k = getO m k := by
    intro v
    induction v with
    | nil => exact fun m _ => rfl
    | cons x v ih =>
      intro m h
      simp only [List.map_cons, List.mem_cons, not_or] at h
      rw [List.foldl_cons, ih _ h.2, getO_put, if_neg (fun e => h.1 e.symm)]
  have key : ∀ (v m : List Of), (v.map (·.1)).Nodup → getO m k = none → (getO (v.foldl putO m) k).getD 0 = offI v k := by
    intro v
    induction v with
    | nil => intro m _ h; simp [h, offI]
    | cons x v ih =>
      intro m hn h
      simp only [List.map_cons, List.nodup_cons] at hn
      rw [List.foldl_cons]
      by_cases e : x.1 = k
      · rw [out v _ (by rw [← e]; exact hn.1), getO_put, if_pos e]
        simp [offI, e]
      · rw [ih _ hn.2 (by rw [getO_put, if_neg e]; exact h)]
        have e2 : (x.1 == k) = false := by rw [beq_eq_false_iff_ne]; exact e
        simp [offI, List.find?_cons, e2]
  exact key v [] hn rfl
theorem timM_is {L : List Spn} (v : List Of) (hn : (idsOf L).Nodup) {s : Spn} (hs : s ∈ L) (e : Bool) : timM L v (evOf s e) = IntKind.i64.wrap (atS s e - offI v s.clk) := by
  cases hf : L.findIdx? (fun x => x.id == s.id) with
  | none =>
    rw [List.findIdx?_eq_none_iff] at hf
    have := hf s hs
    simp at this
  | some i =>
    obtain ⟨hil, hp, _⟩ := List.findIdx?_eq_some_iff_getElem.1 hf
    have hi : L[i]? = some L[i] := List.getElem?_eq_getElem hil
    have he : L[i] = s := id_eq hn (List.getElem_mem hil) hs (by simpa using hp)
    rw [he] at hi
    unfold timM evOf
    simp only [hf, hi]
end Go.Proofs.YtaaflhmfhnfjhaaGreat
