import Derived.Test.YtaaflhmfhnfjhaaGreatM8
import Derived.Test.YtaaflhmfhnfjhaaGreatM7
import Derived.Test.YtaaflhmfhnfjhaaGreatM6
import Derived.Test.YtaaflhmfhnfjhaaGreatM3
namespace Go.Proofs.YtaaflhmfhnfjhaaGreat
open Go.RowKit Go.Exe
set_option linter.unusedVariables false
set_option linter.unusedSimpArgs false
set_option maxHeartbeats 8000000
set_option maxRecDepth 100000
/-! ### the document's small functions -/
attribute [local irreducible] W AX Run RunD AStep AOp AOpX AStB AStH AStG Fits PCall GCall PostG Post Stop
theorem same_c (l m : List Sg) : PCall Tryz.prog 15 [sgsT l, sgsT m] (ft (.bool (decide (l = m)))) := by
  refine PCall.intro (nt := 26) (rs := [.tmp 4]) Tryz.func15 rfl ⟨by kernel_rfl, by kernel_rfl, by kernel_rfl⟩ (by simp) ?_
  rintro ⟨P, w0, ok0, may, np, pblk⟩ rfl rfl
  refine W.lenB 0 rfl tE66 fun hl0 hl1 => ?_
  refine W.lenB 1 rfl tE66 fun hm0 hm1 => ?_
  rw [List.length_map] at hl1 hm1
  by_cases hlen : l.length = m.length
  · have e1 : ((l.length : Int) != (m.length : Int)) = false := by simp [hlen]
    have e0 : ((l.length : Int) == (m.length : Int)) = true := by simp [hlen]
    repeat' (first | ((show W _ _ _ _); first | refine W.seq fun K hK => ?_ | refine W.block ?_ | ((first | refine wR ?_ | refine wD ?_ | refine W.skip ?_ | refine W.exit ?_ | refine W.ret (Post.ret ?_)); simp only [go_sem, reduceCtorEq, List.length_map, e0, e1]) | refine wT ?_ | refine wF ?_ | refine wC (fun h => ?_) (fun h => ?_)) | ((show AX _ _ _ _ _); (first | refine aP ?_ | refine aF ?_ | refine aQ ?_); simp only [go_sem, reduceCtorEq, List.length_map, e0, e1]) | refine iK ?_ | refine aI2 ?_ | (refine hK _ ?_; clear hK K) | clear hK K)
    refine W.loopF (T := fun i : Nat => { t := [(0, sgsT l), (1, sgsT m), (5, ft (.int .i64 (i : Nat)))], h := [], nx := 0, ex := [], nt := 26 })
      (Inv := fun i => i ≤ l.length ∧ l.take i = m.take i) (μ := fun i => l.length - i) (x0 := 0) (Fits.fit [] [0, 1, 5] 0 rfl rfl ?_) ⟨Nat.zero_le _, rfl⟩ ?_
    · simp only [go_sem]
      exact Fits.rfl
    rintro i ⟨hi, hinv⟩ KL hKL
    by_cases hlt : i < l.length
    · obtain ⟨x, hx, _, _⟩ := drop_at hlt
      obtain ⟨y, hy, _, _⟩ := drop_at (show i < m.length by omega)
      have e1 : decide ((i : Int) < l.length) = true := by simp; omega
      have e2 : decide (i < l.length) = true := by simp; omega
      have e3 : decide (i < m.length) = true := by simp; omega
      have hw := w64s i (by omega)
      have hG := eqG66
      have hE := fun w => eqSg x y w
      by_cases hxy : x = y
      · rw [decide_eq_true hxy] at hE
        repeat' (first | ((show W _ _ _ _); first | refine W.seq fun K hK => ?_ | refine W.block ?_ | ((first | refine wR ?_ | refine wD ?_ | refine W.skip ?_ | refine W.exit ?_ | refine W.ret (Post.ret ?_)); simp only [go_sem, reduceCtorEq, List.getElem?_map, hx, hy, sgA, e1, e2, e3, hw, List.length_map]) | refine wT ?_ | refine wF ?_ | refine wC (fun h => ?_) (fun h => ?_)) | ((show AX _ _ _ _ _); (first | refine aP ?_ | refine aF ?_ | refine aQ ?_); simp only [go_sem, reduceCtorEq, List.getElem?_map, hx, hy, sgA, e1, e2, e3, hw, List.length_map]) | refine iK ?_ | refine aI2 ?_ | (refine hK _ ?_; clear hK K) | clear hK K)
        refine hKL.to (i + 1) ⟨by omega, by rw [List.take_add_one, List.take_add_one, hx, hy, hinv, hxy]⟩ (by omega) (Fits.fit [] [0, 1, 5] 0 rfl rfl ?_)
        simp only [go_sem]
        exact Fits.rfl
      · rw [decide_eq_false hxy] at hE
        have hne : decide (l = m) = false := decide_eq_false fun e => by
          subst e; rw [hx] at hy; exact hxy (by simpa using hy)
        clear hKL
        repeat' (first | ((show W _ _ _ _); first | refine W.seq fun K hK => ?_ | refine W.block ?_ | ((first | refine wR ?_ | refine wD ?_ | refine W.skip ?_ | refine W.exit ?_ | refine W.ret (Post.ret ?_)); simp only [go_sem, reduceCtorEq, List.getElem?_map, hx, hy, sgA, e1, e2, e3, hw, List.length_map, hne]) | refine wT ?_ | refine wF ?_ | refine wC (fun h => ?_) (fun h => ?_)) | ((show AX _ _ _ _ _); (first | refine aP ?_ | refine aF ?_ | refine aQ ?_); simp only [go_sem, reduceCtorEq, List.getElem?_map, hx, hy, sgA, e1, e2, e3, hw, List.length_map, hne]) | refine iK ?_ | refine aI2 ?_ | (refine hK _ ?_; clear hK K) | clear hK K)
    · obtain rfl : i = l.length := by omega
      have e1 : decide ((l.length : Int) < l.length) = false := by simp
      have heq : decide (l = m) = true := decide_eq_true (by rw [List.take_length, hlen, List.take_length] at hinv; exact hinv)
      clear hKL
      repeat' (first | ((show W _ _ _ _); first | refine W.seq fun K hK => ?_ | refine W.block ?_ | ((first | refine wR ?_ | refine wD ?_ | refine W.skip ?_ | refine W.exit ?_ | refine W.ret (Post.ret ?_)); simp only [go_sem, reduceCtorEq, e1, heq, List.length_map]) | refine wT ?_ | refine wF ?_ | refine wC (fun h => ?_) (fun h => ?_)) | ((show AX _ _ _ _ _); (first | refine aP ?_ | refine aF ?_ | refine aQ ?_); simp only [go_sem, reduceCtorEq, e1, heq, List.length_map]) | refine iK ?_ | refine aI2 ?_ | (refine hK _ ?_; clear hK K) | clear hK K)
  · have e1 : ((l.length : Int) != (m.length : Int)) = true := by simp; omega
    have e0 : ((l.length : Int) == (m.length : Int)) = false := by simp; omega
    have hne : decide (l = m) = false := decide_eq_false fun e => hlen (by rw [e])
    repeat' (first | ((show W _ _ _ _); first | refine W.seq fun K hK => ?_ | refine W.block ?_ | ((first | refine wR ?_ | refine wD ?_ | refine W.skip ?_ | refine W.exit ?_ | refine W.ret (Post.ret ?_)); simp only [go_sem, reduceCtorEq, List.length_map, e0, e1, hne]) | refine wT ?_ | refine wF ?_ | refine wC (fun h => ?_) (fun h => ?_)) | ((show AX _ _ _ _ _); (first | refine aP ?_ | refine aF ?_ | refine aQ ?_); simp only [go_sem, reduceCtorEq, List.length_map, e0, e1, hne]) | refine iK ?_ | refine aI2 ?_ | (refine hK _ ?_; clear hK K) | clear hK K)
/-- The place of a span's id, -1 where it has none. -/
def atI (l : List Spn) (id : Int) : Int := match l.findIdx? (fun s => s.id == id) with
  | some i => (i : Nat)
  | none => -1
theorem at18_c (l : List Spn) (id : Int) : PCall Tryz.prog 18 [spsT l, ft (.int .i64 id)] (ft (.int .i64 (atI l id))) := by
  refine PCall.intro (nt := 20) (rs := [.tmp 4]) Tryz.func18 rfl ⟨by kernel_rfl, by kernel_rfl, by kernel_rfl⟩ (by simp) ?_
  rintro ⟨P, w0, ok0, may, np, pblk⟩ rfl rfl
  refine W.lenB 0 rfl tE36 fun hl0 hl1 => ?_
  rw [List.length_map] at hl1
  repeat' (first | ((show W _ _ _ _); first | refine W.seq fun K hK => ?_ | refine W.block ?_ | ((first | refine wR ?_ | refine wD ?_ | refine W.skip ?_ | refine W.exit ?_ | refine W.ret (Post.ret ?_)); simp only [go_sem, reduceCtorEq]) | refine wT ?_ | refine wF ?_ | refine wC (fun h => ?_) (fun h => ?_)) | ((show AX _ _ _ _ _); (first | refine aP ?_ | refine aF ?_ | refine aQ ?_); simp only [go_sem, reduceCtorEq]) | refine iK ?_ | refine aI2 ?_ | (refine hK _ ?_; clear hK K) | clear hK K)
  refine W.loopF (T := fun i : Nat => { t := [(0, spsT l), (1, ft (.int .i64 id)), (5, ft (.int .i64 (i : Nat)))], h := [], nx := 0, ex := [], nt := 20 })
    (Inv := fun i => i ≤ l.length ∧ ∀ x ∈ l.take i, (x.id == id) = false) (μ := fun i => l.length - i) (x0 := 0) (Fits.fit [] [0, 1, 5] 0 rfl rfl ?_) ⟨Nat.zero_le _, by simp⟩ ?_
  · simp only [go_sem]
    exact Fits.rfl
  rintro i ⟨hi, hinv⟩ KL hKL
  by_cases hlt : i < l.length
  · obtain ⟨s, hx, hm, hd⟩ := drop_at hlt
    have e1 : decide ((i : Int) < l.length) = true := by simp; omega
    have e2 : decide (i < l.length) = true := by simp; omega
    have hw := w64s i (by omega)
    cases hc : s.id == id
    · repeat' (first | ((show W _ _ _ _); first | refine W.seq fun K hK => ?_ | refine W.block ?_ | ((first | refine wR ?_ | refine wD ?_ | refine W.skip ?_ | refine W.exit ?_ | refine W.ret (Post.ret ?_)); simp only [go_sem, reduceCtorEq, List.getElem?_map, hx, spA, e1, e2, hw, hc, List.length_map]) | refine wT ?_ | refine wF ?_ | refine wC (fun h => ?_) (fun h => ?_)) | ((show AX _ _ _ _ _); (first | refine aP ?_ | refine aF ?_ | refine aQ ?_); simp only [go_sem, reduceCtorEq, List.getElem?_map, hx, spA, e1, e2, hw, hc, List.length_map]) | refine iK ?_ | refine aI2 ?_ | (refine hK _ ?_; clear hK K) | clear hK K)
      refine hKL.to (i + 1) ⟨by omega, fun y hy => ?_⟩ (by omega) (Fits.fit [] [0, 1, 5] 0 rfl rfl ?_)
      · rw [List.take_add_one, hx] at hy
        rcases List.mem_append.1 hy with hy | hy
        · exact hinv y hy
        · simp at hy; subst hy; exact hc
      · simp only [go_sem]
        exact Fits.rfl
    · have hf : atI l id = (i : Nat) := by
        unfold atI
        have : l.findIdx? (fun s => s.id == id) = some i := by
          rw [List.findIdx?_eq_some_iff_getElem]
          obtain ⟨h1, h2⟩ := List.getElem?_eq_some_iff.1 hx
          refine ⟨h1, by rw [h2]; exact hc, fun j hj => ?_⟩
          have := hinv l[j] (List.mem_of_getElem? (i := j) (by rw [List.getElem?_take, if_pos hj, List.getElem?_eq_getElem]))
          simp [this]
        rw [this]
      clear hKL
      repeat' (first | ((show W _ _ _ _); first | refine W.seq fun K hK => ?_ | refine W.block ?_ | ((first | refine wR ?_ | refine wD ?_ | refine W.skip ?_ | refine W.exit ?_ | refine W.ret (Post.ret ?_)); simp only [go_sem, reduceCtorEq, List.getElem?_map, hx, spA, e1, e2, hw, hc, List.length_map, hf]) | refine wT ?_ | refine wF ?_ | refine wC (fun h => ?_) (fun h => ?_)) | ((show AX _ _ _ _ _); (first | refine aP ?_ | refine aF ?_ | refine aQ ?_); simp only [go_sem, reduceCtorEq, List.getElem?_map, hx, spA, e1, e2, hw, hc, List.length_map, hf]) | refine iK ?_ | refine aI2 ?_ | (refine hK _ ?_; clear hK K) | clear hK K)
  · obtain rfl : i = l.length := by omega
    have e1 : decide ((l.length : Int) < l.length) = false := by simp
    have hf : atI l id = -1 := by
      unfold atI
      rw [List.take_length] at hinv
      have : l.findIdx? (fun s => s.id == id) = none := by
        rw [List.findIdx?_eq_none_iff]; exact hinv
      rw [this]
    clear hKL
    repeat' (first | ((show W _ _ _ _); first | refine W.seq fun K hK => ?_ | refine W.block ?_ | ((first | refine wR ?_ | refine wD ?_ | refine W.skip ?_ | refine W.exit ?_ | refine W.ret (Post.ret ?_)); simp only [go_sem, reduceCtorEq, e1, hf, List.length_map]) | refine wT ?_ | refine wF ?_ | refine wC (fun h => ?_) (fun h => ?_)) | ((show AX _ _ _ _ _); (first | refine aP ?_ | refine aF ?_ | refine aQ ?_); simp only [go_sem, reduceCtorEq, e1, hf, List.length_map]) | refine iK ?_ | refine aI2 ?_ | (refine hK _ ?_; clear hK K) | clear hK K)
end Go.Proofs.YtaaflhmfhnfjhaaGreat
namespace Go.Proofs.YtaaflhmfhnfjhaaGreat
open Go.RowKit Go.Exe
set_option linter.unusedVariables false
set_option linter.unusedSimpArgs false
set_option maxHeartbeats 8000000
set_option maxRecDepth 100000
/-- The first offset of a clock. -/
def offI (v : List Of) (c : Int) : Int := match v.find? (fun x => x.1 == c) with
  | some x => x.2
  | none => 0
attribute [local irreducible] W AX Run RunD AStep AOp AOpX AStB AStH AStG Fits PCall GCall PostG Post Stop
/-- Whether the way up from the span at a place never ends, by steps. -/
def cycF (l : List Spn) : Nat → Nat → Bool
  | 0, _ => true
  | n + 1, j => match l[j]? with
    | none => true
    | some s => if s.pa = 0 then false else match l.findIdx? (fun x => x.id == s.pa) with
      | none => false
      | some k => cycF l n k
theorem cyclic_c (l : List Spn) (id : Int) (j0 : Nat) (hj0 : l.findIdx? (fun x => x.id == id) = some j0) : PCall Tryz.prog 19 [spsT l, ft (.int .i64 id)] (ft (.bool (cycF l (l.length + 1) j0))) := by
  have c18 := fun id => at18_c l id
  have a0 := c18 id
  have ha : atI l id = (j0 : Nat) := by simp [atI, hj0]
  have hj1 : j0 < l.length := (List.findIdx?_eq_some_iff_getElem.1 hj0).1
  rw [ha] at a0
  refine PCall.intro (nt := 39) (rs := [.tmp 4]) Tryz.func19 rfl ⟨by kernel_rfl, by kernel_rfl, by kernel_rfl⟩ (by simp) ?_
  rintro ⟨P, w0, ok0, may, np, pblk⟩ rfl rfl
  refine W.lenB 0 rfl tE36 fun hl0 hl1 => ?_
  rw [List.length_map] at hl1
  repeat' (first | ((show W _ _ _ _); first | refine W.seq fun K hK => ?_ | refine W.block ?_ | ((first | refine wR ?_ | refine wD ?_ | refine W.skip ?_ | refine W.exit ?_ | refine W.ret (Post.ret ?_)); simp only [go_sem, reduceCtorEq]) | refine wT ?_ | refine wF ?_ | refine wC (fun h => ?_) (fun h => ?_)) | ((show AX _ _ _ _ _); (first | refine aP ?_ | refine aF ?_); simp only [go_sem, reduceCtorEq]) | refine iK ?_ | refine aI2 ?_ | (refine hK _ ?_; clear hK K) | clear hK K)
  clear a0
  refine W.loopF (T := fun x : Nat × Nat => { t := [(0, spsT l), (5, ft (.int .i64 (x.2 : Nat))), (6, ft (.int .i64 (x.1 : Nat)))], h := [], nx := 0, ex := [], nt := 39 })
    (Inv := fun x => x.1 ≤ l.length + 1 ∧ x.2 < l.length ∧ cycF l (l.length + 1) j0 = cycF l (l.length + 1 - x.1) x.2) (μ := fun x => l.length + 1 - x.1) (x0 := (0, j0)) (Fits.fit [] [0, 5, 6] 0 rfl rfl ?_) ⟨Nat.zero_le _, hj1, rfl⟩ ?_
  · simp only [go_sem, ha]
    exact Fits.rfl
  rintro ⟨i, j⟩ ⟨hi, hj, hinv⟩ KL hKL
  simp only at hi hj hinv
  by_cases hlt : i ≤ l.length
  · obtain ⟨s, hx, hm, hd⟩ := drop_at hj
    have e1 : decide ((i : Int) ≤ l.length) = true := by simp; omega
    have e2 : decide (j < l.length) = true := by simp; omega
    have hw := w64s i (by omega)
    have a1 := c18 s.pa
    have hcy : cycF l (l.length - i + 1) j = if s.pa = 0 then false else match l.findIdx? (fun x => x.id == s.pa) with
      | none => false
      | some k => cycF l (l.length - i) k := by rw [cycF, hx]
    rw [show l.length + 1 - i = (l.length - i) + 1 by omega, hcy] at hinv
    by_cases h0 : s.pa = 0
    · have e3 : (s.pa == 0) = true := by simp [h0]
      rw [if_pos h0] at hinv
      clear hKL c18
      repeat' (first | ((show W _ _ _ _); first | refine W.seq fun K hK => ?_ | refine W.block ?_ | ((first | refine wR ?_ | refine wD ?_ | refine W.skip ?_ | refine W.exit ?_ | refine W.ret (Post.ret ?_)); simp only [go_sem, reduceCtorEq, List.getElem?_map, hx, spA, e1, e2, e3, hw, List.length_map, hinv]) | refine wT ?_ | refine wF ?_ | refine wC (fun h => ?_) (fun h => ?_)) | ((show AX _ _ _ _ _); (first | refine aP ?_ | refine aF ?_); simp only [go_sem, reduceCtorEq, List.getElem?_map, hx, spA, e1, e2, e3, hw, List.length_map, hinv]) | refine iK ?_ | refine aI2 ?_ | (refine hK _ ?_; clear hK K) | clear hK K)
    · have e3 : (s.pa == 0) = false := by simp [h0]
      rw [if_neg h0] at hinv
      cases hk : l.findIdx? (fun x => x.id == s.pa) with
      | none =>
        have ha1 : atI l s.pa = -1 := by simp [atI, hk]
        rw [ha1] at a1
        rw [hk] at hinv
        simp only at hinv
        have e4 : decide ((-1 : Int) < 0) = true := by decide
        clear hKL c18
        repeat' (first | ((show W _ _ _ _); first | refine W.seq fun K hK => ?_ | refine W.block ?_ | ((first | refine wR ?_ | refine wD ?_ | refine W.skip ?_ | refine W.exit ?_ | refine W.ret (Post.ret ?_)); simp only [go_sem, reduceCtorEq, List.getElem?_map, hx, spA, e1, e2, e3, e4, hw, List.length_map, hinv]) | refine wT ?_ | refine wF ?_ | refine wC (fun h => ?_) (fun h => ?_)) | ((show AX _ _ _ _ _); (first | refine aP ?_ | refine aF ?_); simp only [go_sem, reduceCtorEq, List.getElem?_map, hx, spA, e1, e2, e3, e4, hw, List.length_map, hinv]) | refine iK ?_ | refine aI2 ?_ | (refine hK _ ?_; clear hK K) | clear hK K)
      | some k =>
        have ha1 : atI l s.pa = (k : Nat) := by simp [atI, hk]
        rw [ha1] at a1
        rw [hk] at hinv
        simp only at hinv
        have hkl : k < l.length := (List.findIdx?_eq_some_iff_getElem.1 hk).1
        have e4 : decide ((k : Int) < 0) = false := by simp
        clear c18
        repeat' (first | ((show W _ _ _ _); first | refine W.seq fun K hK => ?_ | refine W.block ?_ | ((first | refine wR ?_ | refine wD ?_ | refine W.skip ?_ | refine W.exit ?_ | refine W.ret (Post.ret ?_)); simp only [go_sem, reduceCtorEq, List.getElem?_map, hx, spA, e1, e2, e3, e4, hw, List.length_map]) | refine wT ?_ | refine wF ?_ | refine wC (fun h => ?_) (fun h => ?_)) | ((show AX _ _ _ _ _); (first | refine aP ?_ | refine aF ?_); simp only [go_sem, reduceCtorEq, List.getElem?_map, hx, spA, e1, e2, e3, e4, hw, List.length_map]) | refine iK ?_ | refine aI2 ?_ | (refine hK _ ?_; clear hK K) | clear hK K)
        refine hKL.to (i + 1, k) ⟨by simp only; omega, hkl, by simp only; rw [hinv, show l.length + 1 - (i + 1) = l.length - i by omega]⟩ (by simp only; omega) (Fits.fit [] [0, 5, 6] 0 rfl rfl ?_)
        simp only [go_sem]
        exact Fits.rfl
  · have e1 : decide ((i : Int) ≤ l.length) = false := by simp; omega
    rw [show l.length + 1 - i = 0 by omega, cycF] at hinv
    clear hKL c18
    repeat' (first | ((show W _ _ _ _); first | refine W.seq fun K hK => ?_ | refine W.block ?_ | ((first | refine wR ?_ | refine wD ?_ | refine W.skip ?_ | refine W.exit ?_ | refine W.ret (Post.ret ?_)); simp only [go_sem, reduceCtorEq, e1, List.length_map, hinv]) | refine wT ?_ | refine wF ?_ | refine wC (fun h => ?_) (fun h => ?_)) | ((show AX _ _ _ _ _); (first | refine aP ?_ | refine aF ?_); simp only [go_sem, reduceCtorEq, e1, List.length_map, hinv]) | refine iK ?_ | refine aI2 ?_ | (refine hK _ ?_; clear hK K) | clear hK K)
end Go.Proofs.YtaaflhmfhnfjhaaGreat
namespace Go.Proofs.YtaaflhmfhnfjhaaGreat
open Go.RowKit Go.Exe
set_option linter.unusedVariables false
set_option linter.unusedSimpArgs false
set_option maxHeartbeats 8000000
set_option maxRecDepth 100000
theorem getO_put (m : List Of) (x : Of) (k : Int) : getO (putO m x) k = if x.1 = k then some x.2 else getO m k := by
  induction m with
  | nil => simp [putO, getO]
  | cons y r ih =>
    simp only [putO, getO]
    by_cases h : y.1 = x.1
    · rw [if_pos h]
      simp only [getO]
      by_cases h2 : x.1 = k
      · simp [h2]
      · have : ¬ y.1 = k := by rw [h]; exact h2
        simp [h2, this]
    · rw [if_neg h]
      simp only [getO, ih]
      by_cases h2 : y.1 = k
      · have : ¬ x.1 = k := fun e => h (by rw [h2, e])
        simp [h2, this]
      · simp [h2]
attribute [local irreducible] W AX Run RunD AStep AOp AOpX AStB AStH AStG Fits PCall GCall PostG Post Stop
end Go.Proofs.YtaaflhmfhnfjhaaGreat
namespace Go.Proofs.YtaaflhmfhnfjhaaGreat
open Go.RowKit Go.Exe
set_option linter.unusedVariables false
set_option linter.unusedSimpArgs false
set_option maxHeartbeats 8000000
set_option maxRecDepth 100000
attribute [local irreducible] W AX Run RunD AStep AOp AOpX AStB AStH AStG Fits PCall GCall PostG Post Stop
/-- The example's spans. -/
def exS : List Spn := [⟨1, 1, 0, 0, 1, 1, ⟨#[97]⟩, .empty, ⟨#[111]⟩, 0, 100, false, [], []⟩, ⟨1, 2, 1, 0, 1, 1, ⟨#[98]⟩, .empty, ⟨#[111]⟩, 10, 40, false, [], []⟩, ⟨1, 3, 1, 0, 2, 1, ⟨#[99]⟩, .empty, ⟨#[111]⟩, 30, 90, false, [], []⟩]
end Go.Proofs.YtaaflhmfhnfjhaaGreat
namespace Go.Proofs.YtaaflhmfhnfjhaaGreat
open Go.RowKit Go.Exe
set_option linter.unusedVariables false
set_option linter.unusedSimpArgs false
set_option maxHeartbeats 8000000
set_option maxRecDepth 100000
def spN (s : Spn) : List AV := [.flat (.int .i64 s.tr), .flat (.int .i64 s.id), .flat (.int .i64 s.pa), .flat (.int .i64 s.rev), .flat (.int .i64 s.clk), .flat (.int .i64 s.kd), .flat (.string s.sv), .flat (.string s.ve), .flat (.string s.op), .flat (.int .i64 s.st), .flat (.int .i64 s.en), .flat (.bool s.er), .flat (.slice none 0 0), .flat (.slice none 0 0)]
theorem spN_le {s : Spn} (h1 : s.ats = []) (h2 : s.lks = []) : Al ALe (spN s) (spA s) := by
  unfold spN spA
  rw [h1, h2]
  exact Al.cons .rfl (Al.cons .rfl (Al.cons .rfl (Al.cons .rfl (Al.cons .rfl (Al.cons .rfl (Al.cons .rfl (Al.cons .rfl (Al.cons .rfl (Al.cons .rfl (Al.cons .rfl (Al.cons .rfl (Al.cons .nil (Al.cons .nil Al.nil)))))))))))))
attribute [local irreducible] W AX Run RunD AStep AOp AOpX AStB AStH AStG Fits PCall GCall PostG Post Stop
theorem example_c : PCall Tryz.prog 31 [] (spsT exS) := by
  refine PCall.slLe (xs := exS.map spN) ?_ (Al.cons (spN_le rfl rfl) (Al.cons (spN_le rfl rfl) (Al.cons (spN_le rfl rfl) Al.nil)))
  refine PCall.intro (nt := 5) (rs := [.tmp 0]) Tryz.func31 rfl ⟨by kernel_rfl, by kernel_rfl, by kernel_rfl⟩ (by simp) ?_
  rintro ⟨P, w0, ok0, may, np, pblk⟩ rfl rfl
  repeat' (first | ((show W _ _ _ _); first | refine W.seq fun K hK => ?_ | refine W.block ?_ | ((first | refine wR ?_ | refine wD ?_ | refine W.skip ?_ | refine W.exit ?_ | refine W.ret (Post.ret ?_)); simp only [go_sem, reduceCtorEq]) | refine wT ?_ | refine wF ?_ | refine wC (fun h => ?_) (fun h => ?_)) | ((show AX _ _ _ _ _); (first | refine aP ?_ | refine aF ?_); simp only [go_sem, reduceCtorEq]) | refine iK ?_ | refine aI2 ?_ | (refine hK _ ?_; clear hK K) | clear hK K)
  rfl
end Go.Proofs.YtaaflhmfhnfjhaaGreat
namespace Go.Proofs.YtaaflhmfhnfjhaaGreat
open Go.RowKit Go.Exe
set_option linter.unusedVariables false
set_option linter.unusedSimpArgs false
set_option maxHeartbeats 8000000
set_option maxRecDepth 100000
attribute [local irreducible] W AX Run RunD AStep AOp AOpX AStB AStH AStG Fits PCall GCall PostG Post Stop
end Go.Proofs.YtaaflhmfhnfjhaaGreat
namespace Go.Proofs.YtaaflhmfhnfjhaaGreat
open Go.RowKit Go.Exe
set_option linter.unusedVariables false
set_option linter.unusedSimpArgs false
set_option maxHeartbeats 8000000
set_option maxRecDepth 100000
/-! ### the document's clocks -/
def timM (L : List Spn) (v : List Of) (x : Ev) : Int := match L.findIdx? (fun s => s.id == x.id) with
  | some i => match L[i]? with
    | some s => IntKind.i64.wrap (atS s x.en - offI v s.clk)
    | none => 0
  | none => 0
attribute [local irreducible] W AX Run RunD AStep AOp AOpX AStB AStH AStG Fits PCall GCall PostG Post Stop
end Go.Proofs.YtaaflhmfhnfjhaaGreat
namespace Go.Proofs.YtaaflhmfhnfjhaaGreat
open Go.RowKit Go.Exe
set_option linter.unusedVariables false
set_option linter.unusedSimpArgs false
set_option maxHeartbeats 8000000
set_option maxRecDepth 100000
attribute [local irreducible] W AX Run RunD AStep AOp AOpX AStB AStH AStG Fits PCall GCall PostG Post Stop
end Go.Proofs.YtaaflhmfhnfjhaaGreat
namespace Go.Proofs.YtaaflhmfhnfjhaaGreat
open Go.RowKit Go.Exe
set_option linter.unusedVariables false
set_option linter.unusedSimpArgs false
set_option maxHeartbeats 8000000
set_option maxRecDepth 100000
/-! ### the document's walker: ask -/
attribute [local irreducible] W AX Run RunD AStep AOp AOpX AStB AStH AStG Fits PCall GCall PostG Post Stop
end Go.Proofs.YtaaflhmfhnfjhaaGreat
namespace Go.Proofs.YtaaflhmfhnfjhaaGreat
open Go.RowKit Go.Exe
set_option linter.unusedVariables false
set_option linter.unusedSimpArgs false
def bfM (L : List Spn) (v : List Of) (x y : Ev) : Bool := decide (timM L v x < timM L v y)
end Go.Proofs.YtaaflhmfhnfjhaaGreat
namespace Go.Proofs.YtaaflhmfhnfjhaaGreat
open Go.RowKit Go.Exe
set_option linter.unusedVariables false
set_option linter.unusedSimpArgs false
set_option maxHeartbeats 8000000
set_option maxRecDepth 100000
/-! ### the document's sorted -/
attribute [local irreducible] W AX Run RunD AStep AOp AOpX AStB AStH AStG Fits PCall GCall PostG Post Stop
end Go.Proofs.YtaaflhmfhnfjhaaGreat
namespace Go.Proofs.YtaaflhmfhnfjhaaGreat
open Go.RowKit Go.Exe
set_option linter.unusedVariables false
set_option linter.unusedSimpArgs false
end Go.Proofs.YtaaflhmfhnfjhaaGreat
namespace Go.Proofs.YtaaflhmfhnfjhaaGreat
open Go.RowKit Go.Exe
set_option linter.unusedVariables false
set_option linter.unusedSimpArgs false
theorem kidF_is (l : List Spn) (k : Int) : kidF (kidM l) k = (srtId l).filter fun s => blk s && s.pa == k := getK_km (srtId l) k
theorem getT_put (m : TM) (x : Ev × Int) (k : Ev) : getT (putT m x) k = if x.1 = k then some x.2 else getT m k := by
  induction m with
  | nil => simp [putT, getT]
  | cons y r ih =>
    simp only [putT, getT]
    by_cases h : y.1 = x.1
    · rw [if_pos h]
      simp only [getT]
      by_cases h2 : x.1 = k
      · simp [h2]
      · have : ¬ y.1 = k := by rw [h]; exact h2
        simp [h2, this]
    · rw [if_neg h]
      simp only [getT, ih]
      by_cases h2 : y.1 = k
      · have : ¬ x.1 = k := fun e => h (by rw [h2, e])
        simp [h2, this]
      · simp [h2]
theorem evOf_ne {a b : Spn} (h : a.id ≠ b.id) (e f : Bool) : evOf a e ≠ evOf b f := fun x => h (by simpa [evOf] using congrArg Ev.id x)
/-- The time that Path's map holds for an event of the set. -/
theorem tmv_is {l : List Spn} (v : List Of) (hn : (idsOf l).Nodup) {s : Spn} (hs : s ∈ l) (e : Bool) : tmv (tmN l v l.length) (evOf s e) = atV v s e := by
  have out : ∀ (l : List Spn) (m : TM), s.id ∉ idsOf l → getT (l.foldl (fun m s => putT (putT m (evOf s false, atV v s false)) (evOf s true, atV v s true)) m) (evOf s e) = getT m (evOf s e) := by
    intro l
    induction l with
    | nil => exact fun m _ => rfl
    | cons x l ih =>
      intro m h
      simp only [idsOf, List.map_cons, List.mem_cons, not_or] at h
      rw [List.foldl_cons, ih _ h.2, getT_put, getT_put, if_neg (evOf_ne (fun e => h.1 e.symm) _ _), if_neg (evOf_ne (fun e => h.1 e.symm) _ _)]
  have key : ∀ (l : List Spn) (m : TM), (idsOf l).Nodup → s ∈ l → getT (l.foldl (fun m s => putT (putT m (evOf s false, atV v s false)) (evOf s true, atV v s true)) m) (evOf s e) = some (atV v s e) := by
    intro l
    induction l with
    | nil => intro m _ h; simp at h
    | cons x l ih =>
      intro m hn h
      simp only [idsOf, List.map_cons, List.nodup_cons] at hn
      rw [List.foldl_cons]
      rcases List.mem_cons.1 h with rfl | h
      · rw [out l _ hn.1, getT_put, getT_put]
        cases e
        · rw [if_neg (by simp [evOf]), if_pos rfl]
        · rw [if_pos rfl]
      · exact ih _ hn.2 h
  unfold tmv tmN
  rw [List.take_length, key l [] hn hs]
  rfl
end Go.Proofs.YtaaflhmfhnfjhaaGreat
namespace Go.Proofs.YtaaflhmfhnfjhaaGreat
open Go.RowKit Go.Exe
set_option linter.unusedVariables false
set_option linter.unusedSimpArgs false
theorem off_eq {v : List Of} (hn : (v.map (·.1)).Nodup) (k : Int) : offK v k = offI v k := by
  have out : ∀ (v m : List Of), k ∉ v.map (·.1) → getO (v.foldl putO m) k = getO m k := by
    intro v
    induction v with
    | nil => exact fun m _ => rfl
    | cons x v ih =>
      intro m h
      simp only [List.map_cons, List.mem_cons, not_or] at h
      rw [List.foldl_cons, ih _ h.2, getO_put, if_neg (fun e => h.1 e.symm)]
  have key : ∀ (v m : List Of), (v.map (·.1)).Nodup → getO m k = none → (getO (v.foldl putO m) k).getD 0 = offI v k := by
    intro v
    induction v with
    | nil => intro m _ h; simp [h, offI]
    | cons x v ih =>
      intro m hn h
      simp only [List.map_cons, List.nodup_cons] at hn
      rw [List.foldl_cons]
      by_cases e : x.1 = k
      · rw [out v _ (by rw [← e]; exact hn.1), getO_put, if_pos e]
        simp [offI, e]
      · rw [ih _ hn.2 (by rw [getO_put, if_neg e]; exact h)]
        have e2 : (x.1 == k) = false := by rw [beq_eq_false_iff_ne]; exact e
        simp [offI, List.find?_cons, e2]
  exact key v [] hn rfl
theorem timM_is {L : List Spn} (v : List Of) (hn : (idsOf L).Nodup) {s : Spn} (hs : s ∈ L) (e : Bool) : timM L v (evOf s e) = IntKind.i64.wrap (atS s e - offI v s.clk) := by
  cases hf : L.findIdx? (fun x => x.id == s.id) with
  | none =>
    rw [List.findIdx?_eq_none_iff] at hf
    have := hf s hs
    simp at this
  | some i =>
    obtain ⟨hil, hp, _⟩ := List.findIdx?_eq_some_iff_getElem.1 hf
    have hi : L[i]? = some L[i] := List.getElem?_eq_getElem hil
    have he : L[i] = s := id_eq hn (List.getElem_mem hil) hs (by simpa using hp)
    rw [he] at hi
    unfold timM evOf
    simp only [hf, hi]
end Go.Proofs.YtaaflhmfhnfjhaaGreat
