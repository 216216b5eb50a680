import Derived.Test.YtaaflhmfhnfjhaaGreatM8
import Derived.Test.YtaaflhmfhnfjhaaGreatM7
import Derived.Test.YtaaflhmfhnfjhaaGreatM6
import Derived.Test.YtaaflhmfhnfjhaaGreatM3
set_option linter.unusedVariables false
set_option linter.unusedSimpArgs false
set_option maxHeartbeats 8000000
set_option maxRecDepth 100000
namespace Go.Proofs.YtaaflhmfhnfjhaaGreat
open Go.RowKit Go.Exe
/-! ### the document's small functions -/
attribute [local irreducible] W AX Run RunD AStep AOp AOpX AStB AStH AStG Fits PCall GCall PostG Post Stop
theorem same_c (l m : List Sg) : PCall Tryz.prog 15 [sgsT l, sgsT m] (ft (.bool (decide (l = m)))) := by
  refine PCall.intro (nt := 26) (rs := [.tmp 4]) Tryz.func15 rfl ⟨by kernel_rfl, by kernel_rfl, by kernel_rfl⟩ (by simp) ?_
  rintro ⟨P, w0, ok0, may, np, pblk⟩ rfl rfl
  refine W.lenB 0 rfl tE66 fun hl0 hl1 => ?_
  refine W.lenB 1 rfl tE66 fun hm0 hm1 => ?_
  rw [List.length_map] at hl1 hm1
  by_cases hlen : l.length = m.length
  · have e1 : ((l.length : Int) != (m.length : Int)) = false := by simp [hlen]
    have e0 : ((l.length : Int) == (m.length : Int)) = true := by simp [hlen]
    repeat' (first | refine W.seq fun K hK => ?_ | refine W.block ?_ | ((first | refine wR ?_ | refine wD ?_ | refine W.skip ?_ | refine W.exit ?_ | refine W.ret (Post.ret ?_) | refine aP ?_ | refine aF ?_ | refine aQ ?_); simp only [go_sem, reduceCtorEq, List.length_map, e0, e1]) | refine wT ?_ | refine wF ?_ | refine wC (fun h => ?_) (fun h => ?_) | refine iK ?_ | refine aI2 ?_ | (refine hK _ ?_; clear hK K) | clear hK K)
    refine W.loopF (T := fun i : Nat => { t := [(0, sgsT l), (1, sgsT m), (5, ft (.int .i64 (i : Nat)))], h := [], nx := 0, ex := [], nt := 26 })
      (Inv := fun i => i ≤ l.length ∧ l.take i = m.take i) (μ := fun i => l.length - i) (x0 := 0) (Fits.fit [] [0, 1, 5] 0 rfl rfl ?_) ⟨Nat.zero_le _, rfl⟩ ?_
    · simp only [go_sem]
      exact Fits.rfl
    rintro i ⟨hi, hinv⟩ KL hKL
    by_cases hlt : i < l.length
    · obtain ⟨x, hx, _, _⟩ := drop_at hlt
      obtain ⟨y, hy, _, _⟩ := drop_at (show i < m.length by omega)
      have e1 : decide ((i : Int) < l.length) = true := by simp; omega
      have e2 : decide (i < l.length) = true := by simp; omega
      have e3 : decide (i < m.length) = true := by simp; omega
      have hw := w64s i (by omega)
      have hG := eqG66
      have hE := fun w => eqSg x y w
      by_cases hxy : x = y
      · rw [decide_eq_true hxy] at hE
        repeat' (first | refine W.seq fun K hK => ?_ | refine W.block ?_ | ((first | refine wR ?_ | refine wD ?_ | refine W.skip ?_ | refine W.exit ?_ | refine W.ret (Post.ret ?_) | refine aP ?_ | refine aF ?_ | refine aQ ?_); simp only [go_sem, reduceCtorEq, List.getElem?_map, hx, hy, sgA, e1, e2, e3, hw, List.length_map]) | refine wT ?_ | refine wF ?_ | refine wC (fun h => ?_) (fun h => ?_) | refine iK ?_ | refine aI2 ?_ | (refine hK _ ?_; clear hK K) | clear hK K)
        refine hKL.to (i + 1) ⟨by omega, by rw [List.take_add_one, List.take_add_one, hx, hy, hinv, hxy]⟩ (by omega) (Fits.fit [] [0, 1, 5] 0 rfl rfl ?_)
        simp only [go_sem]
        exact Fits.rfl
      · rw [decide_eq_false hxy] at hE
        have hne : decide (l = m) = false := decide_eq_false fun e => by
          subst e; rw [hx] at hy; exact hxy (by simpa using hy)
        clear hKL
        repeat' (first | refine W.seq fun K hK => ?_ | refine W.block ?_ | ((first | refine wR ?_ | refine wD ?_ | refine W.skip ?_ | refine W.exit ?_ | refine W.ret (Post.ret ?_) | refine aP ?_ | refine aF ?_ | refine aQ ?_); simp only [go_sem, reduceCtorEq, List.getElem?_map, hx, hy, sgA, e1, e2, e3, hw, List.length_map, hne]) | refine wT ?_ | refine wF ?_ | refine wC (fun h => ?_) (fun h => ?_) | refine iK ?_ | refine aI2 ?_ | (refine hK _ ?_; clear hK K) | clear hK K)
    · obtain rfl : i = l.length := by omega
      have e1 : decide ((l.length : Int) < l.length) = false := by simp
      have heq : decide (l = m) = true := decide_eq_true (by rw [List.take_length, hlen, List.take_length] at hinv; exact hinv)
      clear hKL
      repeat' (first | refine W.seq fun K hK => ?_ | refine W.block ?_ | ((first | refine wR ?_ | refine wD ?_ | refine W.skip ?_ | refine W.exit ?_ | refine W.ret (Post.ret ?_) | refine aP ?_ | refine aF ?_ | refine aQ ?_); simp only [go_sem, reduceCtorEq, e1, heq, List.length_map]) | refine wT ?_ | refine wF ?_ | refine wC (fun h => ?_) (fun h => ?_) | refine iK ?_ | refine aI2 ?_ | (refine hK _ ?_; clear hK K) | clear hK K)
  · have e1 : ((l.length : Int) != (m.length : Int)) = true := by simp; omega
    have e0 : ((l.length : Int) == (m.length : Int)) = false := by simp; omega
    have hne : decide (l = m) = false := decide_eq_false fun e => hlen (by rw [e])
    repeat' (first | refine W.seq fun K hK => ?_ | refine W.block ?_ | ((first | refine wR ?_ | refine wD ?_ | refine W.skip ?_ | refine W.exit ?_ | refine W.ret (Post.ret ?_) | refine aP ?_ | refine aF ?_ | refine aQ ?_); simp only [go_sem, reduceCtorEq, List.length_map, e0, e1, hne]) | refine wT ?_ | refine wF ?_ | refine wC (fun h => ?_) (fun h => ?_) | refine iK ?_ | refine aI2 ?_ | (refine hK _ ?_; clear hK K) | clear hK K)
/-- The place of a span's id, -1 where it has none. -/
def atI (l : List Spn) (id : Int) : Int := match l.findIdx? (fun s => s.id == id) with
  | some i => (i : Nat)
  | none => -1
theorem at18_c (l : List Spn) (id : Int) : PCall Tryz.prog 18 [spsT l, ft (.int .i64 id)] (ft (.int .i64 (atI l id))) := by
  refine PCall.intro (nt := 20) (rs := [.tmp 4]) Tryz.func18 rfl ⟨by kernel_rfl, by kernel_rfl, by kernel_rfl⟩ (by simp) ?_
  rintro ⟨P, w0, ok0, may, np, pblk⟩ rfl rfl
  refine W.lenB 0 rfl tE36 fun hl0 hl1 => ?_
  rw [List.length_map] at hl1
  repeat' (first | refine W.seq fun K hK => ?_ | refine W.block ?_ | ((first | refine wR ?_ | refine wD ?_ | refine W.skip ?_ | refine W.exit ?_ | refine W.ret (Post.ret ?_) | refine aP ?_ | refine aF ?_ | refine aQ ?_); simp only [go_sem, reduceCtorEq]) | refine wT ?_ | refine wF ?_ | refine wC (fun h => ?_) (fun h => ?_) | refine iK ?_ | refine aI2 ?_ | (refine hK _ ?_; clear hK K) | clear hK K)
  refine W.loopF (T := fun i : Nat => { t := [(0, spsT l), (1, ft (.int .i64 id)), (5, ft (.int .i64 (i : Nat)))], h := [], nx := 0, ex := [], nt := 20 })
    (Inv := fun i => i ≤ l.length ∧ ∀ x ∈ l.take i, (x.id == id) = false) (μ := fun i => l.length - i) (x0 := 0) (Fits.fit [] [0, 1, 5] 0 rfl rfl ?_) ⟨Nat.zero_le _, by simp⟩ ?_
  · simp only [go_sem]
    exact Fits.rfl
  rintro i ⟨hi, hinv⟩ KL hKL
  by_cases hlt : i < l.length
  · obtain ⟨s, hx, hm, hd⟩ := drop_at hlt
    have e1 : decide ((i : Int) < l.length) = true := by simp; omega
    have e2 : decide (i < l.length) = true := by simp; omega
    have hw := w64s i (by omega)
    cases hc : s.id == id
    · repeat' (first | refine W.seq fun K hK => ?_ | refine W.block ?_ | ((first | refine wR ?_ | refine wD ?_ | refine W.skip ?_ | refine W.exit ?_ | refine W.ret (Post.ret ?_) | refine aP ?_ | refine aF ?_ | refine aQ ?_); simp only [go_sem, reduceCtorEq, List.getElem?_map, hx, spA, e1, e2, hw, hc, List.length_map]) | refine wT ?_ | refine wF ?_ | refine wC (fun h => ?_) (fun h => ?_) | refine iK ?_ | refine aI2 ?_ | (refine hK _ ?_; clear hK K) | clear hK K)
      refine hKL.to (i + 1) ⟨by omega, fun y hy => ?_⟩ (by omega) (Fits.fit [] [0, 1, 5] 0 rfl rfl ?_)
      · rw [List.take_add_one, hx] at hy
        rcases List.mem_append.1 hy with hy | hy
        · exact hinv y hy
        · simp at hy; subst hy; exact hc
      · simp only [go_sem]
        exact Fits.rfl
    · have hf : atI l id = (i : Nat) := by
        unfold atI
        have : l.findIdx? (fun s => s.id == id) = some i := by
          rw [List.findIdx?_eq_some_iff_getElem]
          obtain ⟨h1, h2⟩ := List.getElem?_eq_some_iff.1 hx
          refine ⟨h1, by rw [h2]; exact hc, fun j hj => ?_⟩
          have := hinv l[j] (List.mem_of_getElem? (i := j) (by rw [List.getElem?_take, if_pos hj, List.getElem?_eq_getElem]))
          simp [this]
        rw [this]
      clear hKL
      repeat' (first | refine W.seq fun K hK => ?_ | refine W.block ?_ | ((first | refine wR ?_ | refine wD ?_ | refine W.skip ?_ | refine W.exit ?_ | refine W.ret (Post.ret ?_) | refine aP ?_ | refine aF ?_ | refine aQ ?_); simp only [go_sem, reduceCtorEq, List.getElem?_map, hx, spA, e1, e2, hw, hc, List.length_map, hf]) | refine wT ?_ | refine wF ?_ | refine wC (fun h => ?_) (fun h => ?_) | refine iK ?_ | refine aI2 ?_ | (refine hK _ ?_; clear hK K) | clear hK K)
  · obtain rfl : i = l.length := by omega
    have e1 : decide ((l.length : Int) < l.length) = false := by simp
    have hf : atI l id = -1 := by
      unfold atI
      rw [List.take_length] at hinv
      have : l.findIdx? (fun s => s.id == id) = none := by
        rw [List.findIdx?_eq_none_iff]; exact hinv
      rw [this]
    clear hKL
    repeat' (first | refine W.seq fun K hK => ?_ | refine W.block ?_ | ((first | refine wR ?_ | refine wD ?_ | refine W.skip ?_ | refine W.exit ?_ | refine W.ret (Post.ret ?_) | refine aP ?_ | refine aF ?_ | refine aQ ?_); simp only [go_sem, reduceCtorEq, e1, hf, List.length_map]) | refine wT ?_ | refine wF ?_ | refine wC (fun h => ?_) (fun h => ?_) | refine iK ?_ | refine aI2 ?_ | (refine hK _ ?_; clear hK K) | clear hK K)
theorem event51_c (s : Spn) (e : Bool) : PCall Tryz.prog 51 [spT s, ft (.bool e)] (evT (evOf s e)) := by
  have c1 := refOf_c s
  simp only [spT, spA, refA, evA, evOf, List.map] at c1 ⊢
  refine PCall.intro (nt := 9) (rs := [.cell 4 52]) Tryz.func51 rfl ⟨by kernel_rfl, by kernel_rfl, by kernel_rfl⟩ (by simp) ?_
  rintro ⟨P, w0, ok0, may, np, pblk⟩ rfl rfl
  repeat' (first | refine W.seq fun K hK => ?_ | refine W.block ?_ | ((first | refine wR ?_ | refine wD ?_ | refine W.skip ?_ | refine W.exit ?_ | refine W.ret (Post.ret ?_) | refine aP ?_ | refine aF ?_ | refine aQ ?_); simp only [go_sem, reduceCtorEq]) | refine wT ?_ | refine wF ?_ | refine wC (fun h => ?_) (fun h => ?_) | refine iK ?_ | refine aI2 ?_ | (refine hK _ ?_; clear hK K) | clear hK K)
  rfl
end Go.Proofs.YtaaflhmfhnfjhaaGreat
namespace Go.Proofs.YtaaflhmfhnfjhaaGreat
open Go.RowKit Go.Exe
/-- The first offset of a clock. -/
def offI (v : List Of) (c : Int) : Int := match v.find? (fun x => x.1 == c) with
  | some x => x.2
  | none => 0
attribute [local irreducible] W AX Run RunD AStep AOp AOpX AStB AStH AStG Fits PCall GCall PostG Post Stop
theorem offset48_c (v : List Of) (c : Int) : PCall Tryz.prog 48 [ofsT v, ft (.int .i64 c)] (ft (.int .i64 (offI v c))) := by
  refine PCall.intro (nt := 24) (rs := [.tmp 4]) Tryz.func48 rfl ⟨by kernel_rfl, by kernel_rfl, by kernel_rfl⟩ (by simp) ?_
  rintro ⟨P, w0, ok0, may, np, pblk⟩ rfl rfl
  refine W.lenB 0 rfl tE80 fun hl0 hl1 => ?_
  rw [List.length_map] at hl1
  repeat' (first | refine W.seq fun K hK => ?_ | refine W.block ?_ | ((first | refine wR ?_ | refine wD ?_ | refine W.skip ?_ | refine W.exit ?_ | refine W.ret (Post.ret ?_) | refine aP ?_ | refine aF ?_); simp only [go_sem, reduceCtorEq]) | refine wT ?_ | refine wF ?_ | refine wC (fun h => ?_) (fun h => ?_) | refine iK ?_ | refine aI2 ?_ | (refine hK _ ?_; clear hK K) | clear hK K)
  refine W.loopF (T := fun i : Nat => { t := [(0, ofsT v), (1, ft (.int .i64 c)), (5, ft (.int .i64 (i : Nat)))], h := [], nx := 0, ex := [], nt := 24 })
    (Inv := fun i => i ≤ v.length ∧ ∀ x ∈ v.take i, (x.1 == c) = false) (μ := fun i => v.length - i) (x0 := 0) (Fits.fit [] [0, 1, 5] 0 rfl rfl ?_) ⟨Nat.zero_le _, by simp⟩ ?_
  · simp only [go_sem]
    exact Fits.rfl
  rintro i ⟨hi, hinv⟩ KL hKL
  by_cases hlt : i < v.length
  · obtain ⟨s, hx, hm, hd⟩ := drop_at hlt
    have e1 : decide ((i : Int) < v.length) = true := by simp; omega
    have e2 : decide (i < v.length) = true := by simp; omega
    have hw := w64s i (by omega)
    cases hc : s.1 == c
    · repeat' (first | refine W.seq fun K hK => ?_ | refine W.block ?_ | ((first | refine wR ?_ | refine wD ?_ | refine W.skip ?_ | refine W.exit ?_ | refine W.ret (Post.ret ?_) | refine aP ?_ | refine aF ?_); simp only [go_sem, reduceCtorEq, List.getElem?_map, hx, ofA, e1, e2, hw, hc, List.length_map]) | refine wT ?_ | refine wF ?_ | refine wC (fun h => ?_) (fun h => ?_) | refine iK ?_ | refine aI2 ?_ | (refine hK _ ?_; clear hK K) | clear hK K)
      refine hKL.to (i + 1) ⟨by omega, fun y hy => ?_⟩ (by omega) (Fits.fit [] [0, 1, 5] 0 rfl rfl ?_)
      · rw [List.take_add_one, hx] at hy
        rcases List.mem_append.1 hy with hy | hy
        · exact hinv y hy
        · simp at hy; subst hy; exact hc
      · simp only [go_sem]
        exact Fits.rfl
    · have hf : offI v c = s.2 := by
        unfold offI
        have : v.find? (fun x => x.1 == c) = some s := by
          rw [List.find?_eq_some_iff_getElem]
          obtain ⟨h1, h2⟩ := List.getElem?_eq_some_iff.1 hx
          refine ⟨hc, i, h1, h2, fun j hj => ?_⟩
          have := hinv v[j] (List.mem_of_getElem? (i := j) (by rw [List.getElem?_take, if_pos hj, List.getElem?_eq_getElem]))
          simp [this]
        rw [this]
      clear hKL
      repeat' (first | refine W.seq fun K hK => ?_ | refine W.block ?_ | ((first | refine wR ?_ | refine wD ?_ | refine W.skip ?_ | refine W.exit ?_ | refine W.ret (Post.ret ?_) | refine aP ?_ | refine aF ?_); simp only [go_sem, reduceCtorEq, List.getElem?_map, hx, ofA, e1, e2, hw, hc, List.length_map, hf]) | refine wT ?_ | refine wF ?_ | refine wC (fun h => ?_) (fun h => ?_) | refine iK ?_ | refine aI2 ?_ | (refine hK _ ?_; clear hK K) | clear hK K)
  · obtain rfl : i = v.length := by omega
    have e1 : decide ((v.length : Int) < v.length) = false := by simp
    have hf : offI v c = 0 := by
      unfold offI
      rw [List.take_length] at hinv
      have : v.find? (fun x => x.1 == c) = none := by
        rw [List.find?_eq_none]; exact fun x hx => by simp [hinv x hx]
      rw [this]
    clear hKL
    repeat' (first | refine W.seq fun K hK => ?_ | refine W.block ?_ | ((first | refine wR ?_ | refine wD ?_ | refine W.skip ?_ | refine W.exit ?_ | refine W.ret (Post.ret ?_) | refine aP ?_ | refine aF ?_); simp only [go_sem, reduceCtorEq, e1, hf, List.length_map]) | refine wT ?_ | refine wF ?_ | refine wC (fun h => ?_) (fun h => ?_) | refine iK ?_ | refine aI2 ?_ | (refine hK _ ?_; clear hK K) | clear hK K)
/-- Whether the way up from the span at a place never ends, by steps. -/
def cycF (l : List Spn) : Nat → Nat → Bool
  | 0, _ => true
  | n + 1, j => match l[j]? with
    | none => true
    | some s => if s.pa = 0 then false else match l.findIdx? (fun x => x.id == s.pa) with
      | none => false
      | some k => cycF l n k
theorem cyclic_c (l : List Spn) (id : Int) (j0 : Nat) (hj0 : l.findIdx? (fun x => x.id == id) = some j0) : PCall Tryz.prog 19 [spsT l, ft (.int .i64 id)] (ft (.bool (cycF l (l.length + 1) j0))) := by
  have c18 := fun id => at18_c l id
  have a0 := c18 id
  have ha : atI l id = (j0 : Nat) := by simp [atI, hj0]
  have hj1 : j0 < l.length := (List.findIdx?_eq_some_iff_getElem.1 hj0).1
  rw [ha] at a0
  refine PCall.intro (nt := 39) (rs := [.tmp 4]) Tryz.func19 rfl ⟨by kernel_rfl, by kernel_rfl, by kernel_rfl⟩ (by simp) ?_
  rintro ⟨P, w0, ok0, may, np, pblk⟩ rfl rfl
  refine W.lenB 0 rfl tE36 fun hl0 hl1 => ?_
  rw [List.length_map] at hl1
  repeat' (first | refine W.seq fun K hK => ?_ | refine W.block ?_ | ((first | refine wR ?_ | refine wD ?_ | refine W.skip ?_ | refine W.exit ?_ | refine W.ret (Post.ret ?_) | refine aP ?_ | refine aF ?_); simp only [go_sem, reduceCtorEq]) | refine wT ?_ | refine wF ?_ | refine wC (fun h => ?_) (fun h => ?_) | refine iK ?_ | refine aI2 ?_ | (refine hK _ ?_; clear hK K) | clear hK K)
  clear a0
  refine W.loopF (T := fun x : Nat × Nat => { t := [(0, spsT l), (5, ft (.int .i64 (x.2 : Nat))), (6, ft (.int .i64 (x.1 : Nat)))], h := [], nx := 0, ex := [], nt := 39 })
    (Inv := fun x => x.1 ≤ l.length + 1 ∧ x.2 < l.length ∧ cycF l (l.length + 1) j0 = cycF l (l.length + 1 - x.1) x.2) (μ := fun x => l.length + 1 - x.1) (x0 := (0, j0)) (Fits.fit [] [0, 5, 6] 0 rfl rfl ?_) ⟨Nat.zero_le _, hj1, rfl⟩ ?_
  · simp only [go_sem, ha]
    exact Fits.rfl
  rintro ⟨i, j⟩ ⟨hi, hj, hinv⟩ KL hKL
  simp only at hi hj hinv
  by_cases hlt : i ≤ l.length
  · obtain ⟨s, hx, hm, hd⟩ := drop_at hj
    have e1 : decide ((i : Int) ≤ l.length) = true := by simp; omega
    have e2 : decide (j < l.length) = true := by simp; omega
    have hw := w64s i (by omega)
    have a1 := c18 s.pa
    have hcy : cycF l (l.length - i + 1) j = if s.pa = 0 then false else match l.findIdx? (fun x => x.id == s.pa) with
      | none => false
      | some k => cycF l (l.length - i) k := by rw [cycF, hx]
    rw [show l.length + 1 - i = (l.length - i) + 1 by omega, hcy] at hinv
    by_cases h0 : s.pa = 0
    · have e3 : (s.pa == 0) = true := by simp [h0]
      rw [if_pos h0] at hinv
      clear hKL c18
      repeat' (first | refine W.seq fun K hK => ?_ | refine W.block ?_ | ((first | refine wR ?_ | refine wD ?_ | refine W.skip ?_ | refine W.exit ?_ | refine W.ret (Post.ret ?_) | refine aP ?_ | refine aF ?_); simp only [go_sem, reduceCtorEq, List.getElem?_map, hx, spA, e1, e2, e3, hw, List.length_map, hinv]) | refine wT ?_ | refine wF ?_ | refine wC (fun h => ?_) (fun h => ?_) | refine iK ?_ | refine aI2 ?_ | (refine hK _ ?_; clear hK K) | clear hK K)
    · have e3 : (s.pa == 0) = false := by simp [h0]
      rw [if_neg h0] at hinv
      cases hk : l.findIdx? (fun x => x.id == s.pa) with
      | none =>
        have ha1 : atI l s.pa = -1 := by simp [atI, hk]
        rw [ha1] at a1
        rw [hk] at hinv
        simp only at hinv
        have e4 : decide ((-1 : Int) < 0) = true := by decide
        clear hKL c18
        repeat' (first | refine W.seq fun K hK => ?_ | refine W.block ?_ | ((first | refine wR ?_ | refine wD ?_ | refine W.skip ?_ | refine W.exit ?_ | refine W.ret (Post.ret ?_) | refine aP ?_ | refine aF ?_); simp only [go_sem, reduceCtorEq, List.getElem?_map, hx, spA, e1, e2, e3, e4, hw, List.length_map, hinv]) | refine wT ?_ | refine wF ?_ | refine wC (fun h => ?_) (fun h => ?_) | refine iK ?_ | refine aI2 ?_ | (refine hK _ ?_; clear hK K) | clear hK K)
      | some k =>
        have ha1 : atI l s.pa = (k : Nat) := by simp [atI, hk]
        rw [ha1] at a1
        rw [hk] at hinv
        simp only at hinv
        have hkl : k < l.length := (List.findIdx?_eq_some_iff_getElem.1 hk).1
        have e4 : decide ((k : Int) < 0) = false := by simp
        clear c18
        repeat' (first | refine W.seq fun K hK => ?_ | refine W.block ?_ | ((first | refine wR ?_ | refine wD ?_ | refine W.skip ?_ | refine W.exit ?_ | refine W.ret (Post.ret ?_) | refine aP ?_ | refine aF ?_); simp only [go_sem, reduceCtorEq, List.getElem?_map, hx, spA, e1, e2, e3, e4, hw, List.length_map]) | refine wT ?_ | refine wF ?_ | refine wC (fun h => ?_) (fun h => ?_) | refine iK ?_ | refine aI2 ?_ | (refine hK _ ?_; clear hK K) | clear hK K)
        refine hKL.to (i + 1, k) ⟨by simp only; omega, hkl, by simp only; rw [hinv, show l.length + 1 - (i + 1) = l.length - i by omega]⟩ (by simp only; omega) (Fits.fit [] [0, 5, 6] 0 rfl rfl ?_)
        simp only [go_sem]
        exact Fits.rfl
  · have e1 : decide ((i : Int) ≤ l.length) = false := by simp; omega
    rw [show l.length + 1 - i = 0 by omega, cycF] at hinv
    clear hKL c18
    repeat' (first | refine W.seq fun K hK => ?_ | refine W.block ?_ | ((first | refine wR ?_ | refine wD ?_ | refine W.skip ?_ | refine W.exit ?_ | refine W.ret (Post.ret ?_) | refine aP ?_ | refine aF ?_); simp only [go_sem, reduceCtorEq, e1, List.length_map, hinv]) | refine wT ?_ | refine wF ?_ | refine wC (fun h => ?_) (fun h => ?_) | refine iK ?_ | refine aI2 ?_ | (refine hK _ ?_; clear hK K) | clear hK K)
end Go.Proofs.YtaaflhmfhnfjhaaGreat
namespace Go.Proofs.YtaaflhmfhnfjhaaGreat
open Go.RowKit Go.Exe
theorem getO_put (m : List Of) (x : Of) (k : Int) : getO (putO m x) k = if x.1 = k then some x.2 else getO m k := by
  induction m with
  | nil => simp [putO, getO]
  | cons y r ih =>
    simp only [putO, getO]
    by_cases h : y.1 = x.1
    · rw [if_pos h]
      simp only [getO]
      by_cases h2 : x.1 = k
      · simp [h2]
      · have : ¬ y.1 = k := by rw [h]; exact h2
        simp [h2, this]
    · rw [if_neg h]
      simp only [getO, ih]
      by_cases h2 : y.1 = k
      · have : ¬ x.1 = k := fun e => h (by rw [h2, e])
        simp [h2, this]
      · simp [h2]
theorem gapB_any (v : List Of) (s : Spn) : gapB v s = !(v.any fun x => x.1 == s.clk) := by
  unfold gapB offM
  have key : ∀ (v m : List Of), (getO (v.foldl putO m) s.clk).isNone = ((getO m s.clk).isNone && !(v.any fun x => x.1 == s.clk)) := by
    intro v
    induction v with
    | nil => simp
    | cons x v ih =>
      intro m
      rw [List.foldl_cons, ih, getO_put]
      by_cases h : x.1 = s.clk
      · simp [h]
      · have h2 : (x.1 == s.clk) = false := by rw [beq_eq_false_iff_ne]; exact h
        rw [if_neg h, List.any_cons, h2, Bool.false_or]
  rw [key]
  simp [getO]
attribute [local irreducible] W AX Run RunD AStep AOp AOpX AStB AStH AStG Fits PCall GCall PostG Post Stop
end Go.Proofs.YtaaflhmfhnfjhaaGreat
namespace Go.Proofs.YtaaflhmfhnfjhaaGreat
open Go.RowKit Go.Exe
/-- The offsets of a story's clocks. -/
def offT (s : Sto) (n : Nat) : List Of := (List.range n).map fun k => (((k + 1 : Nat) : Int), offC s (k + 1))
theorem offT_step (s : Sto) (n : Nat) : offT s (n + 1) = offT s n ++ [(((n + 1 : Nat) : Int), offC s (n + 1))] := by
  simp [offT, List.range_succ]
attribute [local irreducible] W AX Run RunD AStep AOp AOpX AStB AStH AStG Fits PCall GCall PostG Post Stop
theorem offsets34_c (s : Sto) (hs : s.ok) : PCall Tryz.prog 34 [stoT s] (ofsT (offT s 4)) := by
  have co := fun k h1 h4 => off_c s hs k h1 h4
  simp only [stoT, stoA, List.map] at co ⊢
  refine PCall.intro (nt := 18) (rs := [.tmp 2]) Tryz.func34 rfl ⟨by kernel_rfl, by kernel_rfl, by kernel_rfl⟩ (by simp) ?_
  rintro ⟨P, w0, ok0, may, np, pblk⟩ rfl rfl
  repeat' (first | refine W.seq fun K hK => ?_ | refine W.block ?_ | ((first | refine wR ?_ | refine wD ?_ | refine W.skip ?_ | refine W.exit ?_ | refine W.ret (Post.ret ?_) | refine aP ?_ | refine aF ?_); simp only [go_sem, reduceCtorEq]) | refine wT ?_ | refine wF ?_ | refine wC (fun h => ?_) (fun h => ?_) | refine iK ?_ | refine aI2 ?_ | (refine hK _ ?_; clear hK K) | clear hK K)
  refine W.loopF (T := fun i : Nat => { t := [(1, .c (.ptr 0 0)), (3, .c (.ref 1)), (4, ft (.int .i64 ((i + 1 : Nat) : Int)))], h := [(0, .box 27 ((stoA s).map .im)), (1, .row 80 (imR ((offT s i).map ofA)))], nx := 2, ex := [], nt := 18 })
    (Inv := fun i => i ≤ 4) (μ := fun i => 4 - i) (x0 := 0) ?_ (Nat.zero_le _) ?_
  · refine Fits.adopt 3 99 80 rfl rfl rfl tE80 rfl ?_
    refine Fits.fit [(0, 0), (99, 1)] [1, 3, 4] 2 rfl rfl ?_
    simp only [go_sem, stoA, offT, List.range_zero, List.map, imR_nil]
    exact Fits.rfl
  rintro i hi KL hKL
  have hol : (offT s i).length = i := by simp [offT]
  by_cases hlt : i < 4
  · have c1 := co (i + 1) (by omega) (by omega)
    have e1 : decide (((i + 1 : Nat) : Int) ≤ 4) = true := by simp; omega
    have hw := w64s (i + 1) (by omega)
    clear co
    simp only [stoA, List.map]
    repeat' (first | refine W.seq fun K hK => ?_ | refine W.block ?_ | ((first | refine wR ?_ | refine wD ?_ | refine W.skip ?_ | refine W.exit ?_ | refine W.ret (Post.ret ?_) | refine aP ?_ | refine aF ?_); simp only [go_sem, reduceCtorEq, e1, hw, imR_len, List.length_map, hol]) | refine wT ?_ | refine wF ?_ | refine wC (fun h => ?_) (fun h => ?_) | refine iK ?_ | refine aI2 ?_ | (refine hK _ ?_; clear hK K) | clear hK K)
    refine hKL.to (i + 1) (by omega) (by omega) (Fits.fit [(0, 0), (11, 1)] [1, 3, 4] 2 rfl rfl ?_)
    simp only [go_sem, stoA, offT_step, snocO, ofA, List.map]
    exact Fits.rfl
  · obtain rfl : i = 4 := by omega
    have e1 : decide (((4 + 1 : Nat) : Int) ≤ 4) = false := by decide
    clear hKL co
    repeat' (first | refine W.seq fun K hK => ?_ | refine W.block ?_ | ((first | refine wR ?_ | refine wD ?_ | refine W.skip ?_ | refine W.exit ?_ | refine W.ret (Post.ret ?_) | refine aP ?_ | refine aF ?_); simp only [go_sem, reduceCtorEq, e1, unim_im]) | refine wT ?_ | refine wF ?_ | refine wC (fun h => ?_) (fun h => ?_) | refine iK ?_ | refine aI2 ?_ | (refine hK _ ?_; clear hK K) | clear hK K)
/-- The example's spans. -/
def exS : List Spn := [⟨1, 1, 0, 0, 1, 1, ⟨#[97]⟩, .empty, ⟨#[111]⟩, 0, 100, false, [], []⟩, ⟨1, 2, 1, 0, 1, 1, ⟨#[98]⟩, .empty, ⟨#[111]⟩, 10, 40, false, [], []⟩, ⟨1, 3, 1, 0, 2, 1, ⟨#[99]⟩, .empty, ⟨#[111]⟩, 30, 90, false, [], []⟩]
end Go.Proofs.YtaaflhmfhnfjhaaGreat
namespace Go.Proofs.YtaaflhmfhnfjhaaGreat
open Go.RowKit Go.Exe
def spN (s : Spn) : List AV := [.flat (.int .i64 s.tr), .flat (.int .i64 s.id), .flat (.int .i64 s.pa), .flat (.int .i64 s.rev), .flat (.int .i64 s.clk), .flat (.int .i64 s.kd), .flat (.string s.sv), .flat (.string s.ve), .flat (.string s.op), .flat (.int .i64 s.st), .flat (.int .i64 s.en), .flat (.bool s.er), .flat (.slice none 0 0), .flat (.slice none 0 0)]
theorem spN_le {s : Spn} (h1 : s.ats = []) (h2 : s.lks = []) : Al ALe (spN s) (spA s) := by
  unfold spN spA
  rw [h1, h2]
  exact Al.cons .rfl (Al.cons .rfl (Al.cons .rfl (Al.cons .rfl (Al.cons .rfl (Al.cons .rfl (Al.cons .rfl (Al.cons .rfl (Al.cons .rfl (Al.cons .rfl (Al.cons .rfl (Al.cons .rfl (Al.cons .nil (Al.cons .nil Al.nil)))))))))))))
attribute [local irreducible] W AX Run RunD AStep AOp AOpX AStB AStH AStG Fits PCall GCall PostG Post Stop
theorem example_c : PCall Tryz.prog 31 [] (spsT exS) := by
  refine PCall.slLe (xs := exS.map spN) ?_ (Al.cons (spN_le rfl rfl) (Al.cons (spN_le rfl rfl) (Al.cons (spN_le rfl rfl) Al.nil)))
  refine PCall.intro (nt := 5) (rs := [.tmp 0]) Tryz.func31 rfl ⟨by kernel_rfl, by kernel_rfl, by kernel_rfl⟩ (by simp) ?_
  rintro ⟨P, w0, ok0, may, np, pblk⟩ rfl rfl
  repeat' (first | refine W.seq fun K hK => ?_ | refine W.block ?_ | ((first | refine wR ?_ | refine wD ?_ | refine W.skip ?_ | refine W.exit ?_ | refine W.ret (Post.ret ?_) | refine aP ?_ | refine aF ?_); simp only [go_sem, reduceCtorEq]) | refine wT ?_ | refine wF ?_ | refine wC (fun h => ?_) (fun h => ?_) | refine iK ?_ | refine aI2 ?_ | (refine hK _ ?_; clear hK K) | clear hK K)
  rfl
end Go.Proofs.YtaaflhmfhnfjhaaGreat
namespace Go.Proofs.YtaaflhmfhnfjhaaGreat
open Go.RowKit Go.Exe
/-- The story's first tree, where the story is told. -/
def turnT (s : Sto) : Option Tre := if shortS s then (match s.ts[0]? with | some t => if t.cs.length = 0 then none else some t | none => none) else none
def rotL (l : List Spn) (u : Nat) : List Spn := l.drop (u % l.length) ++ l.take (u % l.length)
abbrev turnR (r : Option (List Spn × List Of)) : TV := .t [(false, [.im (.sl 36 (((r.map (·.1)).getD []).map spA))]), (false, [.im (.sl 80 (((r.map (·.2)).getD []).map ofA))]), (false, [fl (.bool r.isSome)])]
def turnF (s : Sto) (u : Nat) : Option (List Spn × List Of) := (turnT s).map fun t => (rotL (trcS s 0 t) u, offT s 4)
theorem turnErr {args : List TV} {f : Nat} (h : PCall Tryz.prog f args (.t [(false, [fl (.slice none 0 0)]), (false, [fl (.slice none 0 0)]), (false, [fl (.bool false)])])) : PCall Tryz.prog f args (turnR none) :=
  PCall.conv (args' := args) h (Al.refl (fun _ => TLe.rfl) _) (TLe.t (Al.cons ⟨rfl, Al.cons CLe.nil Al.nil⟩ (Al.cons ⟨rfl, Al.cons CLe.nil Al.nil⟩ (Al.cons ⟨rfl, Al.cons CLe.rfl Al.nil⟩ Al.nil))))
attribute [local irreducible] W AX Run RunD AStep AOp AOpX AStB AStH AStG Fits PCall GCall PostG Post Stop
theorem turned_c (s : Sto) (hs : s.ok) (u : Nat) (hu : u < 256) : PCall Tryz.prog 12 [stoT s, ft (.int .u8 (u : Nat))] (turnR (turnF s u)) := by
  have c32 := short_c s
  have c34 := offsets34_c s hs
  cases hsh : shortS s with
  | false =>
    have : turnF s u = none := by simp [turnF, turnT, hsh]
    rw [this]
    refine turnErr ?_
    rw [hsh] at c32
    clear c34
    simp only [stoT, stoA, List.map] at c32 ⊢
    refine PCall.intro (nt := 45) (rs := [.tmp 4, .tmp 5, .tmp 6]) Tryz.func12 rfl ⟨by kernel_rfl, by kernel_rfl, by kernel_rfl⟩ (by simp) ?_
    rintro ⟨P, w0, ok0, may, np, pblk⟩ rfl rfl
    repeat' (first | refine W.seq fun K hK => ?_ | refine W.block ?_ | ((first | refine wR ?_ | refine wD ?_ | refine W.skip ?_ | refine W.exit ?_ | refine W.ret (Post.ret ?_) | refine aP ?_ | refine aF ?_); simp only [go_sem, reduceCtorEq]) | refine wT ?_ | refine wF ?_ | refine wC (fun h => ?_) (fun h => ?_) | refine iK ?_ | refine aI2 ?_ | (refine hK _ ?_; clear hK K) | clear hK K)
  | true =>
    rw [hsh] at c32
    cases ht : s.ts[0]? with
    | none =>
      have : turnF s u = none := by simp [turnF, turnT, hsh, ht]
      have h0 : s.ts.length = 0 := by
        rw [List.getElem?_eq_none_iff] at ht; omega
      rw [this]
      refine turnErr ?_
      clear c34
      have e1 : ((s.ts.length : Int) == 0) = true := by simp [h0]
      simp only [stoT, stoA, List.map] at c32 ⊢
      refine PCall.intro (nt := 45) (rs := [.tmp 4, .tmp 5, .tmp 6]) Tryz.func12 rfl ⟨by kernel_rfl, by kernel_rfl, by kernel_rfl⟩ (by simp) ?_
      rintro ⟨P, w0, ok0, may, np, pblk⟩ rfl rfl
      repeat' (first | refine W.seq fun K hK => ?_ | refine W.block ?_ | ((first | refine wR ?_ | refine wD ?_ | refine W.skip ?_ | refine W.exit ?_ | refine W.ret (Post.ret ?_) | refine aP ?_ | refine aF ?_); simp only [go_sem, reduceCtorEq, List.length_map, e1]) | refine wT ?_ | refine wF ?_ | refine wC (fun h => ?_) (fun h => ?_) | refine iK ?_ | refine aI2 ?_ | (refine hK _ ?_; clear hK K) | clear hK K)
    | some t =>
      have h0 : 0 < s.ts.length := (List.getElem?_eq_some_iff.1 ht).1
      have e1 : ((s.ts.length : Int) == 0) = false := by rw [beq_eq_false_iff_ne]; omega
      by_cases hc : t.cs.length = 0
      · have : turnF s u = none := by simp [turnF, turnT, hsh, ht, hc]
        rw [this]
        refine turnErr ?_
        clear c34
        have e2 : ((t.cs.length : Int) == 0) = true := by simp [hc]
        have e3 : decide (0 < s.ts.length) = true := by simp [h0]
        simp only [stoT, stoA, List.map] at c32 ⊢
        refine PCall.intro (nt := 45) (rs := [.tmp 4, .tmp 5, .tmp 6]) Tryz.func12 rfl ⟨by kernel_rfl, by kernel_rfl, by kernel_rfl⟩ (by simp) ?_
        rintro ⟨P, w0, ok0, may, np, pblk⟩ rfl rfl
        repeat' (first | refine W.seq fun K hK => ?_ | refine W.block ?_ | ((first | refine wR ?_ | refine wD ?_ | refine W.skip ?_ | refine W.exit ?_ | refine W.ret (Post.ret ?_) | refine aP ?_ | refine aF ?_); simp only [go_sem, reduceCtorEq, List.length_map, List.getElem?_map, ht, treA, e1, e2, e3]) | refine wT ?_ | refine wF ?_ | refine wC (fun h => ?_) (fun h => ?_) | refine iK ?_ | refine aI2 ?_ | (refine hK _ ?_; clear hK K) | clear hK K)
      · have hF : turnF s u = some (rotL (trcS s 0 t) u, offT s 4) := by simp [turnF, turnT, hsh, ht, hc]
        rw [hF]
        have e2 : ((t.cs.length : Int) == 0) = false := by rw [beq_eq_false_iff_ne]; omega
        have e3 : decide (0 < s.ts.length) = true := by simp [h0]
        have ct := strace_c s hs 0 t ht (by omega)
        simp only [stoT, stoA, List.map] at c32 c34 ct ⊢
        refine PCall.intro (nt := 45) (rs := [.tmp 4, .tmp 5, .tmp 6]) Tryz.func12 rfl ⟨by kernel_rfl, by kernel_rfl, by kernel_rfl⟩ (by simp) ?_
        rintro ⟨P, w0, ok0, may, np, pblk⟩ rfl rfl
        have hl := trcS_len s 0 t
        have htc := (hs.1 t (List.mem_of_getElem? ht)).2.2.2
        unfold rotL
        generalize trcS s 0 t = L at *
        have hLl : 0 < L.length := by omega
        have e4 : ((L.length : Int) == 0) = false := by rw [beq_eq_false_iff_ne]; omega
        have q1 := w64n u (by omega)
        have q2 := tm u L.length
        have hk : u % L.length < L.length := Nat.mod_lt _ hLl
        generalize u % L.length = k at *
        have q3 := w64n k (by omega)
        have e5 : decide ((k : Int) ≤ L.length) = true := by simp; omega
        have e6 : decide (k ≤ L.length) = true := by simp; omega
        repeat' (first | refine W.seq fun K hK => ?_ | refine W.block ?_ | ((first | refine wR ?_ | refine wD ?_ | refine W.skip ?_ | refine W.exit ?_ | refine W.ret (Post.ret ?_) | refine aP ?_ | refine aF ?_); simp only [go_sem, reduceCtorEq, List.length_map, List.getElem?_map, ht, treA, e1, e2, e3, e4, q1, q2, q3, e5, e6]) | refine wT ?_ | refine wF ?_ | refine wC (fun h => ?_) (fun h => ?_) | refine iK ?_ | refine aI2 ?_ | (refine hK _ ?_; clear hK K) | clear hK K)
        have hrow : imR (List.drop k (List.take L.length (List.map spA L))) ++ imR (List.take k (List.map spA L)) = imR ((L.drop k ++ L.take k).map spA) := by
          rw [List.take_of_length_le (by simp), List.map_append, imR_app, List.map_drop, List.map_take]
        simp only [hrow, unim_im]
        rfl
end Go.Proofs.YtaaflhmfhnfjhaaGreat
namespace Go.Proofs.YtaaflhmfhnfjhaaGreat
open Go.RowKit Go.Exe
/-! ### the document's clocks -/
def timM (L : List Spn) (v : List Of) (x : Ev) : Int := match L.findIdx? (fun s => s.id == x.id) with
  | some i => match L[i]? with
    | some s => IntKind.i64.wrap (atS s x.en - offI v s.clk)
    | none => 0
  | none => 0
def prA (x : Ev × Ev) : List AV := evA x.1 ++ evA x.2
abbrev clO (L : List Spn) (v : List Of) (q : List (Ev × Ev)) (n : Int) : Exe.Obj := .nbox 58 [.im (.sl 36 (L.map spA)), .im (.sl 80 (v.map ofA)), .orow 193 (q.map prA), fl (.int .i64 n)]
attribute [local irreducible] W AX Run RunD AStep AOp AOpX AStB AStH AStG Fits PCall GCall PostG Post Stop
theorem time23_c (L : List Spn) (v : List Of) (q : List (Ev × Ev)) (n : Int) (x : Ev) : GCall Tryz.prog 23 1 (St.g [.c (.ptr 0 0), evT x] [(0, clO L v q n)] 1) (St.r (ft (.int .i64 (timM L v x))) [(0, clO L v q n)] 1) := by
  have c18 := at18_c L x.id
  have c47 := fun s => at_c0 s x.en
  have c48 := fun c => offset48_c v c
  simp only [evT, evA, List.map]
  cases hi : L.findIdx? (fun s => s.id == x.id) with
  | none =>
    have ha : atI L x.id = -1 := by simp [atI, hi]
    have hT : timM L v x = 0 := by simp [timM, hi]
    rw [ha] at c18
    rw [hT]
    have e1 : decide ((-1 : Int) < 0) = true := by decide
    clear c47 c48
    refine GCall.introG (nt := 40) (rs := [.tmp 4]) Tryz.func23 rfl ⟨by kernel_rfl, by kernel_rfl, by kernel_rfl⟩ (by simp) ?_
    rintro ⟨P, w0, ok0, may, np, pblk⟩ rfl rfl
    simp only [go_sem]
    repeat' (first | refine W.seq fun K hK => ?_ | refine W.block ?_ | ((first | refine wR ?_ | refine wD ?_ | refine W.skip ?_ | refine W.exit ?_ | refine W.ret (Post.ret ?_) | refine aP ?_ | refine aF ?_); simp only [go_sem, reduceCtorEq, e1]) | refine wT ?_ | refine wF ?_ | refine wC (fun h => ?_) (fun h => ?_) | refine iK ?_ | refine aI2 ?_ | (refine hK _ ?_; clear hK K) | clear hK K)
    refine W.ret (PostG.ret (Fits.fit [(0, 0)] [4] 1 rfl rfl Fits.rfl) rfl rfl ?_)
    simp only [St.r, go_sem]
  | some i =>
    have hil : i < L.length := (List.findIdx?_eq_some_iff_getElem.1 hi).1
    obtain ⟨s, hx, hm, _⟩ := drop_at hil
    have ha : atI L x.id = (i : Nat) := by simp [atI, hi]
    have hT : timM L v x = IntKind.i64.wrap (atS s x.en - offI v s.clk) := by simp [timM, hi, hx]
    rw [ha] at c18
    rw [hT]
    have e1 : decide ((i : Int) < 0) = false := by simp
    have e2 : decide (i < L.length) = true := by simp [hil]
    have c1 := c47 s
    have c2 := c48 s.clk
    clear c47 c48 hi hT ha
    simp only [spT, spA, List.map] at c1
    refine GCall.introG (nt := 40) (rs := [.tmp 4]) Tryz.func23 rfl ⟨by kernel_rfl, by kernel_rfl, by kernel_rfl⟩ (by simp) ?_
    rintro ⟨P, w0, ok0, may, np, pblk⟩ rfl rfl
    simp only [go_sem]
    repeat' (first | refine W.seq fun K hK => ?_ | refine W.block ?_ | ((first | refine wR ?_ | refine wD ?_ | refine W.skip ?_ | refine W.exit ?_ | refine W.ret (Post.ret ?_) | refine aP ?_ | refine aF ?_); simp only [go_sem, reduceCtorEq, List.getElem?_map, hx, spA, e1, e2, List.length_map]) | refine wT ?_ | refine wF ?_ | refine wC (fun h => ?_) (fun h => ?_) | refine iK ?_ | refine aI2 ?_ | (refine hK _ ?_; clear hK K) | clear hK K)
    refine W.ret (PostG.ret (Fits.fit [(0, 0)] [4] 1 rfl rfl Fits.rfl) rfl rfl ?_)
    simp only [St.r, go_sem]
end Go.Proofs.YtaaflhmfhnfjhaaGreat
namespace Go.Proofs.YtaaflhmfhnfjhaaGreat
open Go.RowKit Go.Exe
theorem snocP (q : List (Ev × Ev)) (z : Ev × Ev) : imR ((q ++ [z]).map prA) = imR (q.map prA) ++ [(prA z).map .im] := by simp [imR, imL]
/-- The answer of the document's 'before', and its error. -/
def befR (L : List Spn) (v : List Of) (m : Nat) (n : Int) (x y : Ev) : Bool × Int := if (m : Int) = n then (false, 23) else (decide (timM L v x < timM L v y), 0)
attribute [local irreducible] W AX Run RunD AStep AOp AOpX AStB AStH AStG Fits PCall GCall PostG Post Stop
theorem before_c (L : List Spn) (v : List Of) (q : List (Ev × Ev)) (n : Int) (x y : Ev) (hq : q.length + 1 ≤ 1099511627776) :
    GCall Tryz.prog 101 1 (St.g [.c (.ptr 0 0), evT x, evT y] [(0, clO L v q n)] 1) (St.r (.t [(false, [fl (.bool (befR L v (q.length + 1) n x y).1)]), (false, [fl (.int .i64 (befR L v (q.length + 1) n x y).2)])]) [(0, clO L v (q ++ [(x, y)]) n)] 1) := by
  have cx := fun q => time23_c L v q n x
  have cy := fun q => time23_c L v q n y
  have hrow := snocP q (x, y)
  have hcx := cx (q ++ [(x, y)])
  have hcy := cy (q ++ [(x, y)])
  clear cx cy
  unfold befR
  generalize timM L v x = a at *
  generalize timM L v y = b at *
  simp only [prA, evT, evA, List.map, List.cons_append, List.nil_append] at hrow hcx hcy ⊢
  by_cases hn : ((q.length + 1 : Nat) : Int) = n
  · rw [if_pos hn]
    have e1 : (((q.length + 1 : Nat) : Int) == n) = true := by rw [beq_iff_eq]; exact hn
    clear hcx hcy
    refine GCall.introG (nt := 37) (rs := [.tmp 6, .tmp 7]) Tryz.func101 rfl ⟨by kernel_rfl, by kernel_rfl, by kernel_rfl⟩ (by simp) ?_
    rintro ⟨P, w0, ok0, may, np, pblk⟩ rfl rfl
    simp only [go_sem]
    repeat' (first | refine W.stop (id := 1) ?_ | refine W.seq fun K hK => ?_ | refine W.block ?_ | ((first | refine wR ?_ | refine wD ?_ | refine W.skip ?_ | refine W.exit ?_ | refine W.ret (Post.ret ?_) | refine aP ?_ | refine aF ?_); simp only [go_sem, reduceCtorEq]) | refine wT ?_ | refine wF ?_ | refine wC (fun h => ?_) (fun h => ?_) | refine iK ?_ | refine aI2 ?_ | (refine hK _ ?_; clear hK K) | clear hK K)
    refine Stop.out ?_
    refine W.fits (Fits.unf 0 0 2 200 rfl rfl rfl rfl rfl Fits.rfl) ?_
    simp only [go_sem]
    repeat' (first | refine W.seq fun K hK => ?_ | refine W.block ?_ | ((first | refine wR ?_ | refine wD ?_ | refine W.skip ?_ | refine W.exit ?_ | refine W.ret (Post.ret ?_) | refine aP ?_ | refine aF ?_); simp only [go_sem, reduceCtorEq, imR_len, List.length_map, List.length_append, List.length_singleton, e1]) | refine wT ?_ | refine wF ?_ | refine wC (fun h => ?_) (fun h => ?_) | refine iK ?_ | refine aI2 ?_ | (refine hK _ ?_; clear hK K) | clear hK K)
    simp only [← hrow]
    refine W.fits (Fits.fold 0 0 2 210 (.orow 193 ((q ++ [(x, y)]).map prA)) rfl rfl rfl (by simp [Obj.slot, refCell]) (by decide) Fits.rfl) ?_
    simp only [go_sem]
    refine W.ret (PostG.ret (Fits.fit [(0, 0)] [6, 7] 1 rfl rfl Fits.rfl) rfl rfl ?_)
    simp only [St.r, go_sem]
  · rw [if_neg hn]
    have e1 : (((q.length + 1 : Nat) : Int) == n) = false := by rw [beq_eq_false_iff_ne]; exact hn
    refine GCall.introG (nt := 37) (rs := [.tmp 6, .tmp 7]) Tryz.func101 rfl ⟨by kernel_rfl, by kernel_rfl, by kernel_rfl⟩ (by simp) ?_
    rintro ⟨P, w0, ok0, may, np, pblk⟩ rfl rfl
    simp only [go_sem]
    repeat' (first | refine W.stop (id := 1) ?_ | refine W.seq fun K hK => ?_ | refine W.block ?_ | ((first | refine wR ?_ | refine wD ?_ | refine W.skip ?_ | refine W.exit ?_ | refine W.ret (Post.ret ?_) | refine aP ?_ | refine aF ?_); simp only [go_sem, reduceCtorEq]) | refine wT ?_ | refine wF ?_ | refine wC (fun h => ?_) (fun h => ?_) | refine iK ?_ | refine aI2 ?_ | (refine hK _ ?_; clear hK K) | clear hK K)
    refine Stop.out ?_
    refine W.fits (Fits.unf 0 0 2 200 rfl rfl rfl rfl rfl Fits.rfl) ?_
    simp only [go_sem]
    repeat' (first | refine W.stop (id := 4) ?_ | refine W.seq fun K hK => ?_ | refine W.block ?_ | ((first | refine wR ?_ | refine wD ?_ | refine W.skip ?_ | refine W.exit ?_ | refine W.ret (Post.ret ?_) | refine aP ?_ | refine aF ?_); simp only [go_sem, reduceCtorEq, imR_len, List.length_map, List.length_append, List.length_singleton, e1]) | refine wT ?_ | refine wF ?_ | refine wC (fun h => ?_) (fun h => ?_) | refine iK ?_ | refine aI2 ?_ | (refine hK _ ?_; clear hK K) | clear hK K)
    refine Stop.out ?_
    simp only [← hrow]
    refine W.fits (Fits.fold 0 0 2 210 (.orow 193 ((q ++ [(x, y)]).map prA)) rfl rfl rfl (by simp [Obj.slot, refCell]) (by decide) Fits.rfl) ?_
    simp only [go_sem]
    repeat' (first | refine W.seq fun K hK => ?_ | refine W.block ?_ | ((first | refine wR ?_ | refine wD ?_ | refine W.skip ?_ | refine W.exit ?_ | refine W.ret (Post.ret ?_) | refine aP ?_ | refine aF ?_); simp only [go_sem, reduceCtorEq]) | refine wT ?_ | refine wF ?_ | refine wC (fun h => ?_) (fun h => ?_) | refine iK ?_ | refine aI2 ?_ | (refine hK _ ?_; clear hK K) | clear hK K)
    refine AX.gcall [0] rfl rfl (hcx) (by simp only [go_sem, reduceCtorEq]) (by simp only [go_sem, reduceCtorEq]) rfl rfl (by simp only [go_sem, Obj.owns]) rfl (by simp only [go_sem, Obj.owns]) rfl rfl ?_
    simp only [go_sem, reduceCtorEq]
    repeat' (first | refine W.seq fun K hK => ?_ | refine W.block ?_ | ((first | refine wR ?_ | refine wD ?_ | refine W.skip ?_ | refine W.exit ?_ | refine W.ret (Post.ret ?_) | refine aP ?_ | refine aF ?_); simp only [go_sem, reduceCtorEq]) | refine wT ?_ | refine wF ?_ | refine wC (fun h => ?_) (fun h => ?_) | refine iK ?_ | refine aI2 ?_ | (refine hK _ ?_; clear hK K) | clear hK K)
    refine AX.gcall [0] rfl rfl (hcy) (by simp only [go_sem, reduceCtorEq]) (by simp only [go_sem, reduceCtorEq]) rfl rfl (by simp only [go_sem, Obj.owns]) rfl (by simp only [go_sem, Obj.owns]) rfl rfl ?_
    simp only [go_sem, reduceCtorEq]
    repeat' (first | refine W.seq fun K hK => ?_ | refine W.block ?_ | ((first | refine wR ?_ | refine wD ?_ | refine W.skip ?_ | refine W.exit ?_ | refine W.ret (Post.ret ?_) | refine aP ?_ | refine aF ?_); simp only [go_sem, reduceCtorEq]) | refine wT ?_ | refine wF ?_ | refine wC (fun h => ?_) (fun h => ?_) | refine iK ?_ | refine aI2 ?_ | (refine hK _ ?_; clear hK K) | clear hK K)
    refine W.ret (PostG.ret (Fits.fit [(0, 0)] [6, 7] 1 rfl rfl Fits.rfl) rfl rfl ?_)
    simp only [St.r, go_sem]
end Go.Proofs.YtaaflhmfhnfjhaaGreat
namespace Go.Proofs.YtaaflhmfhnfjhaaGreat
open Go.RowKit Go.Exe
/-! ### the document's walker: ask -/
def askM (L : List Spn) (v : List Of) (n : Int) (q : List (Ev × Ev)) (e : Int) (x y : Ev) : Bool × List (Ev × Ev) × Int :=
  if e ≠ 0 ∨ x = y then (false, q, e) else ((befR L v (q.length + 1) n x y).1 && (befR L v (q.length + 1) n x y).2 == 0, q ++ [(x, y)], (befR L v (q.length + 1) n x y).2)
abbrev wmO (L : List Spn) (v : List Of) (n : Int) (p : List Sg) (q : List (Ev × Ev)) (e : Int) : List (Nat × Exe.Obj) := [(0, .nbox 130 [.ptr 1 0, .orow 66 (p.map sgA), fl (.int .i64 e)]), (1, clO L v q n)]
attribute [local irreducible] W AX Run RunD AStep AOp AOpX AStB AStH AStG Fits PCall GCall PostG Post Stop
theorem ask79_c (L : List Spn) (v : List Of) (n : Int) (p : List Sg) (q : List (Ev × Ev)) (e : Int) (x y : Ev) (hq : q.length + 1 ≤ 1099511627776) :
    GCall Tryz.prog 79 2 (St.g [.c (.ptr 0 0), evT x, evT y] (wmO L v n p q e) 2) (St.r (ft (.bool (askM L v n q e x y).1)) (wmO L v n p (askM L v n q e x y).2.1 (askM L v n q e x y).2.2) 2) := by
  have c1 := before_c L v q n x y hq
  unfold askM
  by_cases he : e = 0
  · subst he
    have e0 : ((0 : Int) != 0) = false := by decide
    have hG := eqG52
    have hE := fun w => eqEv x.tr x.id y.tr y.id x.en y.en w
    simp only [evEq] at hE
    by_cases hxy : x = y
    · rw [if_pos (.inr hxy)]
      rw [decide_eq_true hxy] at hE
      clear c1
      simp only [evT, evA, List.map]
      refine GCall.introG (nt := 38) (rs := [.tmp 6]) Tryz.func79 rfl ⟨by kernel_rfl, by kernel_rfl, by kernel_rfl⟩ (by simp) ?_
      rintro ⟨P, w0, ok0, may, np, pblk⟩ rfl rfl
      simp only [go_sem]
      repeat' (first | refine W.seq fun K hK => ?_ | refine W.block ?_ | ((first | refine wR ?_ | refine wD ?_ | refine W.skip ?_ | refine W.exit ?_ | refine W.ret (Post.ret ?_) | refine aP ?_ | refine aF ?_ | refine aE ?_); simp only [go_sem, reduceCtorEq, e0]) | refine wT ?_ | refine wF ?_ | refine wC (fun h => ?_) (fun h => ?_) | refine iK ?_ | refine aI2 ?_ | (refine hK _ ?_; clear hK K) | clear hK K)
      refine W.ret (PostG.ret (Fits.fit [(0, 0), (1, 1)] [6] 2 rfl rfl Fits.rfl) rfl rfl ?_)
      simp only [St.r, go_sem]
    · rw [if_neg (by simp [hxy])]
      rw [decide_eq_false hxy] at hE
      generalize befR L v (q.length + 1) n x y = r at *
      obtain ⟨b, f⟩ := r
      simp only [evT, evA, List.map] at c1 ⊢
      cases b with
      | false =>
        refine GCall.introG (nt := 38) (rs := [.tmp 6]) Tryz.func79 rfl ⟨by kernel_rfl, by kernel_rfl, by kernel_rfl⟩ (by simp) ?_
        rintro ⟨P, w0, ok0, may, np, pblk⟩ rfl rfl
        simp only [go_sem]
        repeat' (first | refine W.seq fun K hK => ?_ | refine W.block ?_ | ((first | refine wR ?_ | refine wD ?_ | refine W.skip ?_ | refine W.exit ?_ | refine W.ret (Post.ret ?_) | refine aP ?_ | refine aF ?_ | refine aE ?_); simp only [go_sem, reduceCtorEq, e0]) | refine wT ?_ | refine wF ?_ | refine wC (fun h => ?_) (fun h => ?_) | refine iK ?_ | refine aI2 ?_ | (refine hK _ ?_; clear hK K) | clear hK K)
        refine AX.gcall [1] rfl rfl (c1) (by simp only [go_sem, reduceCtorEq]) (by simp only [go_sem, reduceCtorEq]) rfl rfl (by simp only [go_sem, Obj.owns]) rfl (by simp only [go_sem, Obj.owns]) rfl rfl ?_
        simp only [go_sem, reduceCtorEq]
        repeat' (first | refine W.seq fun K hK => ?_ | refine W.block ?_ | ((first | refine wR ?_ | refine wD ?_ | refine W.skip ?_ | refine W.exit ?_ | refine W.ret (Post.ret ?_) | refine aP ?_ | refine aF ?_ | refine aE ?_); simp only [go_sem, reduceCtorEq]) | refine wT ?_ | refine wF ?_ | refine wC (fun h => ?_) (fun h => ?_) | refine iK ?_ | refine aI2 ?_ | (refine hK _ ?_; clear hK K) | clear hK K)
        refine W.ret (PostG.ret (Fits.fit [(0, 0), (1, 1)] [6] 2 rfl rfl Fits.rfl) rfl rfl ?_)
        simp only [St.r, go_sem, Bool.false_and]
      | true =>
        refine GCall.introG (nt := 38) (rs := [.tmp 6]) Tryz.func79 rfl ⟨by kernel_rfl, by kernel_rfl, by kernel_rfl⟩ (by simp) ?_
        rintro ⟨P, w0, ok0, may, np, pblk⟩ rfl rfl
        simp only [go_sem]
        repeat' (first | refine W.seq fun K hK => ?_ | refine W.block ?_ | ((first | refine wR ?_ | refine wD ?_ | refine W.skip ?_ | refine W.exit ?_ | refine W.ret (Post.ret ?_) | refine aP ?_ | refine aF ?_ | refine aE ?_); simp only [go_sem, reduceCtorEq, e0]) | refine wT ?_ | refine wF ?_ | refine wC (fun h => ?_) (fun h => ?_) | refine iK ?_ | refine aI2 ?_ | (refine hK _ ?_; clear hK K) | clear hK K)
        refine AX.gcall [1] rfl rfl (c1) (by simp only [go_sem, reduceCtorEq]) (by simp only [go_sem, reduceCtorEq]) rfl rfl (by simp only [go_sem, Obj.owns]) rfl (by simp only [go_sem, Obj.owns]) rfl rfl ?_
        simp only [go_sem, reduceCtorEq]
        repeat' (first | refine W.seq fun K hK => ?_ | refine W.block ?_ | ((first | refine wR ?_ | refine wD ?_ | refine W.skip ?_ | refine W.exit ?_ | refine W.ret (Post.ret ?_) | refine aP ?_ | refine aF ?_ | refine aE ?_); simp only [go_sem, reduceCtorEq]) | refine wT ?_ | refine wF ?_ | refine wC (fun h => ?_) (fun h => ?_) | refine iK ?_ | refine aI2 ?_ | (refine hK _ ?_; clear hK K) | clear hK K)
        refine W.ret (PostG.ret (Fits.fit [(0, 0), (1, 1)] [6] 2 rfl rfl Fits.rfl) rfl rfl ?_)
        simp only [St.r, go_sem, Bool.true_and]
  · rw [if_pos (.inl he)]
    have e0 : (e != 0) = true := by simp [he]
    clear c1
    simp only [evT, evA, List.map]
    refine GCall.introG (nt := 38) (rs := [.tmp 6]) Tryz.func79 rfl ⟨by kernel_rfl, by kernel_rfl, by kernel_rfl⟩ (by simp) ?_
    rintro ⟨P, w0, ok0, may, np, pblk⟩ rfl rfl
    simp only [go_sem]
    repeat' (first | refine W.seq fun K hK => ?_ | refine W.block ?_ | ((first | refine wR ?_ | refine wD ?_ | refine W.skip ?_ | refine W.exit ?_ | refine W.ret (Post.ret ?_) | refine aP ?_ | refine aF ?_ | refine aE ?_); simp only [go_sem, reduceCtorEq, e0]) | refine wT ?_ | refine wF ?_ | refine wC (fun h => ?_) (fun h => ?_) | refine iK ?_ | refine aI2 ?_ | (refine hK _ ?_; clear hK K) | clear hK K)
    refine W.ret (PostG.ret (Fits.fit [(0, 0), (1, 1)] [6] 2 rfl rfl Fits.rfl) rfl rfl ?_)
    simp only [St.r, go_sem]
end Go.Proofs.YtaaflhmfhnfjhaaGreat
namespace Go.Proofs.YtaaflhmfhnfjhaaGreat
open Go.RowKit Go.Exe
def bfM (L : List Spn) (v : List Of) (x y : Ev) : Bool := decide (timM L v x < timM L v y)
theorem befR_0 (L : List Spn) (v : List Of) (m : Nat) (x y : Ev) : befR L v (m + 1) 0 x y = (bfM L v x y, 0) := by
  unfold befR
  rw [if_neg (by omega)]; rfl
theorem askM_0 (L : List Spn) (v : List Of) (q : List (Ev × Ev)) (x y : Ev) : askM L v 0 q 0 x y = (askB (bfM L v) x y, (if x = y then q else q ++ [(x, y)]), 0) := by
  unfold askM askB
  by_cases h : x = y
  · rw [if_pos (.inr h), if_pos h, decide_eq_true h]; rfl
  · rw [if_neg (by simp [h]), if_neg h, befR_0, decide_eq_false h]
    simp
end Go.Proofs.YtaaflhmfhnfjhaaGreat
namespace Go.Proofs.YtaaflhmfhnfjhaaGreat
open Go.RowKit Go.Exe
/-! ### the document's sorted -/
def insK (out : List Spn) (x : Spn) : Nat → Nat
  | 0 => 0
  | k + 1 => match out[k]? with
    | some y => if y.id > x.id then insK out x k else k + 1
    | none => k + 1
def insM (out : List Spn) (x : Spn) : List Spn := out.take (insK out x out.length) ++ [x] ++ out.drop (insK out x out.length)
def sortM (l : List Spn) (n : Nat) : List Spn := (l.take n).foldl insM []
theorem insK_le (out : List Spn) (x : Spn) : ∀ k, insK out x k ≤ k
  | 0 => Nat.le_refl _
  | k + 1 => by
    have := insK_le out x k
    unfold insK
    split
    · split <;> omega
    · omega
theorem insM_len (out : List Spn) (x : Spn) : (insM out x).length = out.length + 1 := by
  have := insK_le out x out.length
  simp [insM]; omega
theorem sortM_step {l : List Spn} {i : Nat} {x : Spn} (h : l[i]? = some x) : sortM l (i + 1) = insM (sortM l i) x := by
  simp [sortM, List.take_add_one, h]
theorem sortM_len (l : List Spn) : ∀ i, i ≤ l.length → (sortM l i).length = i
  | 0, _ => by simp [sortM]
  | i + 1, h => by
    rw [sortM_step (List.getElem?_eq_getElem (by omega : i < l.length)), insM_len, sortM_len l i (by omega)]
attribute [local irreducible] W AX Run RunD AStep AOp AOpX AStB AStH AStG Fits PCall GCall PostG Post Stop
theorem sorted28_c (l : List Spn) : PCall Tryz.prog 28 [spsT l] (spsT (sortM l l.length)) := by
  refine PCall.intro (nt := 48) (rs := [.tmp 2]) Tryz.func28 rfl ⟨by kernel_rfl, by kernel_rfl, by kernel_rfl⟩ (by simp) ?_
  rintro ⟨P, w0, ok0, may, np, pblk⟩ rfl rfl
  refine W.lenB 0 rfl tE36 fun hl0 hl1 => ?_
  rw [List.length_map] at hl1
  repeat' (first | refine W.seq fun K hK => ?_ | refine W.block ?_ | ((first | refine wR ?_ | refine wD ?_ | refine W.skip ?_ | refine W.exit ?_ | refine W.ret (Post.ret ?_) | refine aP ?_ | refine aF ?_); simp only [go_sem, reduceCtorEq]) | refine wT ?_ | refine wF ?_ | refine wC (fun h => ?_) (fun h => ?_) | refine iK ?_ | refine aI2 ?_ | (refine hK _ ?_; clear hK K) | clear hK K)
  refine W.loopF (T := fun i : Nat => { t := [(0, spsT l), (3, spsT (sortM l i)), (4, ft (.int .i64 (i : Nat)))], h := [], nx := 0, ex := [], nt := 48 })
    (Inv := fun i => i ≤ l.length) (μ := fun i => l.length - i) (x0 := 0) ?_ (Nat.zero_le _) ?_
  · refine Fits.nilSl 3 36 rfl ?_
    refine Fits.fit [] [0, 3, 4] 0 rfl rfl ?_
    simp only [go_sem]
    exact Fits.rfl
  rintro i hi KL hKL
  by_cases hlt : i < l.length
  · obtain ⟨x, hx, hm, hd⟩ := drop_at hlt
    have e1 : decide ((i : Int) < l.length) = true := by simp; omega
    have e2 : decide (i < l.length) = true := by simp; omega
    have hw := w64s i (by omega)
    have hst := sortM_step hx
    have hol := sortM_len l i hi
    obtain ⟨o2, ho2⟩ : ∃ o, o = sortM l (i + 1) := ⟨_, rfl⟩
    rw [← ho2] at hst
    generalize sortM l i = out at *
    repeat' (first | refine W.seq fun K hK => ?_ | refine W.block ?_ | ((first | refine wR ?_ | refine wD ?_ | refine W.skip ?_ | refine W.exit ?_ | refine W.ret (Post.ret ?_) | refine aP ?_ | refine aF ?_); simp only [go_sem, reduceCtorEq, List.length_map, e1]) | refine wT ?_ | refine wF ?_ | refine wC (fun h => ?_) (fun h => ?_) | refine iK ?_ | refine aI2 ?_ | (refine hK _ ?_; clear hK K) | clear hK K)
    refine W.loopF (T := fun k : Nat => { t := [(0, spsT l), (3, spsT out), (4, ft (.int .i64 (i : Nat))), (5, ft (.int .i64 (k : Nat)))], h := [], nx := 0, ex := [], nt := 48 })
      (Inv := fun k => k ≤ out.length ∧ insK out x out.length = insK out x k) (μ := fun k => k) (x0 := out.length) (Fits.fit [] [0, 3, 4, 5] 0 rfl rfl ?_) ⟨Nat.le_refl _, rfl⟩ ?_
    · simp only [go_sem]
      exact Fits.rfl
    rintro k ⟨hk, hik⟩ KJ hKJ
    have fin : insK out x k = k → o2 = out.take k ++ [x] ++ out.drop k := fun h => by rw [hst, insM, hik, h]
    have fin2 : insK out x k = k → imR (List.take k (List.map spA out)) ++ [(spA x).map .im] ++ imR (List.drop k (List.take out.length (List.map spA out))) = imR (o2.map spA) := fun h => by
      have e : List.take out.length (List.map spA out) = List.map spA out := List.take_of_length_le (by simp)
      rw [e, fin h]; simp [imR, imL, List.map_take, List.map_drop]
    rcases k with _ | k
    · have q1 : decide (((0 : Nat) : Int) > 0) = false := by simp
      have q5 : decide ((((0 : Nat) : Int) : Int) ≤ out.length) = true := by first | (simp; done) | (simp; omega)
      have q6 : decide (0 ≤ out.length) = true := by first | (simp; done) | (simp; omega)
      have hf := fin2 (by simp [insK])
      simp only [spA, List.map, List.take_zero, List.drop_zero] at hf
      clear hKJ fin fin2
      repeat' (first | refine W.seq fun K hK => ?_ | refine W.block ?_ | ((first | refine wR ?_ | refine wD ?_ | refine W.skip ?_ | refine W.exit ?_ | refine W.ret (Post.ret ?_) | refine aP ?_ | refine aF ?_); simp only [go_sem, reduceCtorEq, List.getElem?_map, hx, spA, e2, hw, q5, q6, q1, List.length_map, List.length_take, List.length_drop, imR_len]) | refine wT ?_ | refine wF ?_ | refine wC (fun h => ?_) (fun h => ?_) | refine iK ?_ | refine aI2 ?_ | (refine hK _ ?_; clear hK K) | clear hK K)
      refine hKL.to (i + 1) (by omega) (by omega) ?_
      simp only [hf]
      refine Fits.freeze 30 rfl (unim_im _) (Fits.seeT 3 30 rfl (.inl rfl) rfl (Fits.fit [] [0, 3, 4] 0 rfl rfl ?_))
      simp only [go_sem, ho2]
      exact Fits.rfl
    · obtain ⟨y, hy, hym, _⟩ := drop_at (show k < out.length by omega)
      have q1 : decide (((k + 1 : Nat) : Int) > 0) = true := by simp
      have q2 : IntKind.i64.wrap (((k + 1 : Nat) : Int) - 1) = (k : Nat) := by rw [w64 (by omega) (by omega)]; omega
      have q3 : decide (k < out.length) = true := by simp; omega
      have hin : insK out x (k + 1) = if y.id > x.id then insK out x k else k + 1 := by rw [insK, hy]
      cases hc : decide (y.id > x.id)
      · have hc2 := of_decide_eq_false hc
        rw [if_neg hc2] at hin
        have q5 : decide ((((k + 1 : Nat) : Int) : Int) ≤ out.length) = true := by first | (simp; done) | (simp; omega)
        have q6 : decide (k + 1 ≤ out.length) = true := by first | (simp; done) | (simp; omega)
        have hf := fin2 hin
        simp only [spA, List.map, List.take_zero, List.drop_zero] at hf
        clear hKJ fin fin2
        repeat' (first | refine W.seq fun K hK => ?_ | refine W.block ?_ | ((first | refine wR ?_ | refine wD ?_ | refine W.skip ?_ | refine W.exit ?_ | refine W.ret (Post.ret ?_) | refine aP ?_ | refine aF ?_); simp only [go_sem, reduceCtorEq, List.getElem?_map, hx, hy, spA, e2, hw, q5, q6, q1, q2, q3, hc, List.length_map, List.length_take, List.length_drop, imR_len]) | refine wT ?_ | refine wF ?_ | refine wC (fun h => ?_) (fun h => ?_) | refine iK ?_ | refine aI2 ?_ | (refine hK _ ?_; clear hK K) | clear hK K)
        refine hKL.to (i + 1) (by omega) (by omega) ?_
        simp only [hf]
        refine Fits.freeze 30 rfl (unim_im _) (Fits.seeT 3 30 rfl (.inl rfl) rfl (Fits.fit [] [0, 3, 4] 0 rfl rfl ?_))
        simp only [go_sem, ho2]
        exact Fits.rfl

      · have hc2 := of_decide_eq_true hc
        rw [if_pos hc2] at hin
        clear fin fin2
        repeat' (first | refine W.seq fun K hK => ?_ | refine W.block ?_ | ((first | refine wR ?_ | refine wD ?_ | refine W.skip ?_ | refine W.exit ?_ | refine W.ret (Post.ret ?_) | refine aP ?_ | refine aF ?_); simp only [go_sem, reduceCtorEq, List.getElem?_map, hx, hy, spA, e2, hw, q1, q2, q3, hc, List.length_map]) | refine wT ?_ | refine wF ?_ | refine wC (fun h => ?_) (fun h => ?_) | refine iK ?_ | refine aI2 ?_ | (refine hK _ ?_; clear hK K) | clear hK K)
        refine hKJ.to k ⟨by omega, by rw [hik, hin]⟩ (by omega) (Fits.fit [] [0, 3, 4, 5] 0 rfl rfl ?_)
        simp only [go_sem]
        exact Fits.rfl
  · obtain rfl : i = l.length := by omega
    have e1 : decide ((l.length : Int) < l.length) = false := by simp
    clear hKL
    repeat' (first | refine W.seq fun K hK => ?_ | refine W.block ?_ | ((first | refine wR ?_ | refine wD ?_ | refine W.skip ?_ | refine W.exit ?_ | refine W.ret (Post.ret ?_) | refine aP ?_ | refine aF ?_); simp only [go_sem, reduceCtorEq, List.length_map, e1]) | refine wT ?_ | refine wF ?_ | refine wC (fun h => ?_) (fun h => ?_) | refine iK ?_ | refine aI2 ?_ | (refine hK _ ?_; clear hK K) | clear hK K)
end Go.Proofs.YtaaflhmfhnfjhaaGreat
namespace Go.Proofs.YtaaflhmfhnfjhaaGreat
open Go.RowKit Go.Exe
theorem insK_hi (out : List Spn) (x : Spn) : ∀ n j y, insK out x n ≤ j → j < n → out[j]? = some y → y.id > x.id
  | 0, j, y, _, h, _ => by omega
  | n + 1, j, y, h1, h2, hy => by
    unfold insK at h1
    split at h1
    · rename_i z hz
      split at h1
      · rename_i hgt
        by_cases e : j = n
        · subst e; rw [hz] at hy; cases hy; exact hgt
        · exact insK_hi out x n j y h1 (by omega) hy
      · omega
    · omega
theorem insK_lo (out : List Spn) (x : Spn) : ∀ n k y, n ≤ out.length → insK out x n = k + 1 → out[k]? = some y → y.id ≤ x.id
  | 0, k, y, _, h, _ => by simp [insK] at h
  | n + 1, k, y, hn, h, hy => by
    unfold insK at h
    split at h
    · rename_i z hz
      split at h
      · exact insK_lo out x n k y (by omega) h hy
      · rename_i hle
        obtain rfl : n = k := by omega
        rw [hz] at hy; cases hy; omega
    · rename_i hz
      rw [List.getElem?_eq_none_iff] at hz
      omega
theorem insM_perm (out : List Spn) (x : Spn) : (insM out x).Perm (x :: out) := by
  unfold insM
  generalize insK out x out.length = k
  have h : out.take k ++ [x] ++ out.drop k = out.take k ++ x :: out.drop k := by simp
  rw [h]
  exact List.perm_middle.trans (by rw [List.take_append_drop])
theorem insM_sorted {out : List Spn} {x : Spn} (h : out.Pairwise fun a b => a.id ≤ b.id) : (insM out x).Pairwise fun a b => a.id ≤ b.id := by
  unfold insM
  obtain ⟨k, hk⟩ : ∃ k, k = insK out x out.length := ⟨_, rfl⟩
  have hkl : k ≤ out.length := hk ▸ insK_le out x out.length
  have hhi : ∀ y ∈ out.drop k, x.id ≤ y.id := fun y hy => by
    obtain ⟨j, hj⟩ := List.getElem?_of_mem hy
    rw [List.getElem?_drop] at hj
    have := insK_hi out x out.length (k + j) y (by omega) (List.getElem?_eq_some_iff.1 hj).1 hj
    omega
  have hlo : ∀ y ∈ out.take k, y.id ≤ x.id := fun y hy => by
    rcases k with _ | k
    · simp at hy
    · obtain ⟨z, hz⟩ : ∃ z, out[k]? = some z := ⟨_, List.getElem?_eq_getElem (by omega)⟩
      have h1 := insK_lo out x out.length k z (Nat.le_refl _) hk.symm hz
      rw [List.take_add_one, hz] at hy
      rcases List.mem_append.1 hy with hy | hy
      · have h2 : out = out.take k ++ out.drop k := (List.take_append_drop k out).symm
        rw [h2, List.pairwise_append] at h
        have h3 := h.2.2 y hy z (List.mem_of_getElem? (i := 0) (by rw [List.getElem?_drop]; exact hz))
        omega
      · simp at hy; subst hy; exact h1
  rw [← hk]
  have h2 : out = out.take k ++ out.drop k := (List.take_append_drop k out).symm
  have h4 := h
  rw [h2, List.pairwise_append] at h4
  rw [List.append_assoc, List.pairwise_append]
  refine ⟨h4.1, ?_, fun a ha b hb => ?_⟩
  · rw [List.singleton_append, List.pairwise_cons]
    exact ⟨hhi, h4.2.1⟩
  · rw [List.singleton_append] at hb
    rcases List.mem_cons.1 hb with rfl | hb
    · exact hlo a ha
    · exact h4.2.2 a ha b hb
theorem sortM_srt {l : List Spn} (hn : (idsOf l).Nodup) : sortM l l.length = srtId l := by
  have key : ∀ (l out : List Spn), (out.Pairwise fun a b => a.id ≤ b.id) → (l.foldl insM out).Perm (l ++ out) ∧ (l.foldl insM out).Pairwise fun a b => a.id ≤ b.id := by
    intro l
    induction l with
    | nil => exact fun out h => ⟨List.Perm.refl _, h⟩
    | cons x l ih =>
      intro out h
      obtain ⟨h1, h2⟩ := ih (insM out x) (insM_sorted h)
      refine ⟨h1.trans ?_, h2⟩
      exact ((insM_perm out x).append_left l).trans List.perm_middle
  unfold sortM
  rw [List.take_length]
  obtain ⟨h1, h2⟩ := key l [] List.Pairwise.nil
  rw [List.append_nil] at h1
  exact srtId_uni hn h1 h2
end Go.Proofs.YtaaflhmfhnfjhaaGreat
namespace Go.Proofs.YtaaflhmfhnfjhaaGreat
open Go.RowKit Go.Exe
theorem kidF_is (l : List Spn) (k : Int) : kidF (kidM l) k = (srtId l).filter fun s => blk s && s.pa == k := getK_km (srtId l) k
theorem getT_put (m : TM) (x : Ev × Int) (k : Ev) : getT (putT m x) k = if x.1 = k then some x.2 else getT m k := by
  induction m with
  | nil => simp [putT, getT]
  | cons y r ih =>
    simp only [putT, getT]
    by_cases h : y.1 = x.1
    · rw [if_pos h]
      simp only [getT]
      by_cases h2 : x.1 = k
      · simp [h2]
      · have : ¬ y.1 = k := by rw [h]; exact h2
        simp [h2, this]
    · rw [if_neg h]
      simp only [getT, ih]
      by_cases h2 : y.1 = k
      · have : ¬ x.1 = k := fun e => h (by rw [h2, e])
        simp [h2, this]
      · simp [h2]
theorem evOf_ne {a b : Spn} (h : a.id ≠ b.id) (e f : Bool) : evOf a e ≠ evOf b f := fun x => h (by simpa [evOf] using congrArg Ev.id x)
/-- The time that Path's map holds for an event of the set. -/
theorem tmv_is {l : List Spn} (v : List Of) (hn : (idsOf l).Nodup) {s : Spn} (hs : s ∈ l) (e : Bool) : tmv (tmN l v l.length) (evOf s e) = atV v s e := by
  have out : ∀ (l : List Spn) (m : TM), s.id ∉ idsOf l → getT (l.foldl (fun m s => putT (putT m (evOf s false, atV v s false)) (evOf s true, atV v s true)) m) (evOf s e) = getT m (evOf s e) := by
    intro l
    induction l with
    | nil => exact fun m _ => rfl
    | cons x l ih =>
      intro m h
      simp only [idsOf, List.map_cons, List.mem_cons, not_or] at h
      rw [List.foldl_cons, ih _ h.2, getT_put, getT_put, if_neg (evOf_ne (fun e => h.1 e.symm) _ _), if_neg (evOf_ne (fun e => h.1 e.symm) _ _)]
  have key : ∀ (l : List Spn) (m : TM), (idsOf l).Nodup → s ∈ l → getT (l.foldl (fun m s => putT (putT m (evOf s false, atV v s false)) (evOf s true, atV v s true)) m) (evOf s e) = some (atV v s e) := by
    intro l
    induction l with
    | nil => intro m _ h; simp at h
    | cons x l ih =>
      intro m hn h
      simp only [idsOf, List.map_cons, List.nodup_cons] at hn
      rw [List.foldl_cons]
      rcases List.mem_cons.1 h with rfl | h
      · rw [out l _ hn.1, getT_put, getT_put]
        cases e
        · rw [if_neg (by simp [evOf]), if_pos rfl]
        · rw [if_pos rfl]
      · exact ih _ hn.2 h
  unfold tmv tmN
  rw [List.take_length, key l [] hn hs]
  rfl
end Go.Proofs.YtaaflhmfhnfjhaaGreat
namespace Go.Proofs.YtaaflhmfhnfjhaaGreat
open Go.RowKit Go.Exe
theorem off_eq {v : List Of} (hn : (v.map (·.1)).Nodup) (k : Int) : offK v k = offI v k := by
  have out : ∀ (v m : List Of), k ∉ v.map (·.1) → getO (v.foldl putO m) k = getO m k := by
    intro v
    induction v with
    | nil => exact fun m _ => rfl
    | cons x v ih =>
      intro m h
      simp only [List.map_cons, List.mem_cons, not_or] at h
      rw [List.foldl_cons, ih _ h.2, getO_put, if_neg (fun e => h.1 e.symm)]
  have key : ∀ (v m : List Of), (v.map (·.1)).Nodup → getO m k = none → (getO (v.foldl putO m) k).getD 0 = offI v k := by
    intro v
    induction v with
    | nil => intro m _ h; simp [h, offI]
    | cons x v ih =>
      intro m hn h
      simp only [List.map_cons, List.nodup_cons] at hn
      rw [List.foldl_cons]
      by_cases e : x.1 = k
      · rw [out v _ (by rw [← e]; exact hn.1), getO_put, if_pos e]
        simp [offI, e]
      · rw [ih _ hn.2 (by rw [getO_put, if_neg e]; exact h)]
        have e2 : (x.1 == k) = false := by rw [beq_eq_false_iff_ne]; exact e
        simp [offI, List.find?_cons, e2]
  exact key v [] hn rfl
theorem timM_is {L : List Spn} (v : List Of) (hn : (idsOf L).Nodup) {s : Spn} (hs : s ∈ L) (e : Bool) : timM L v (evOf s e) = IntKind.i64.wrap (atS s e - offI v s.clk) := by
  cases hf : L.findIdx? (fun x => x.id == s.id) with
  | none =>
    rw [List.findIdx?_eq_none_iff] at hf
    have := hf s hs
    simp at this
  | some i =>
    obtain ⟨hil, hp, _⟩ := List.findIdx?_eq_some_iff_getElem.1 hf
    have hi : L[i]? = some L[i] := List.getElem?_eq_getElem hil
    have he : L[i] = s := id_eq hn (List.getElem_mem hil) hs (by simpa using hp)
    rw [he] at hi
    unfold timM evOf
    simp only [hf, hi]
end Go.Proofs.YtaaflhmfhnfjhaaGreat
