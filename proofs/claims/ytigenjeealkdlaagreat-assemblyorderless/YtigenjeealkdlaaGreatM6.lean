import Derived.Test.YtigenjeealkdlaaGreatM5
import Derived.Test.YtigenjeealkdlaaGreatM3
set_option linter.unusedVariables false
set_option linter.unusedSimpArgs false
set_option maxHeartbeats 8000000
set_option maxRecDepth 100000
namespace Go.Proofs.YtigenjeealkdlaaGreat
open Go.RowKit Go.Exe
attribute [local irreducible] W AX Run RunD AStep AOp AOpX AStB AStH AStG Fits PCall GCall PostG Post Stop
abbrev ndsT (l : List Nd) : TV := .c (.im (.sl 35 (l.map ndA)))
theorem index1_c (n : Nd) (id : Int) : PCall Tryz.prog 91 [.g ((ndA n).map .im), ft (.int .i64 id)] (ft (.int .i64 (cmpI n.id id))) := by
  have c1 := cmpCompareI_c
  simp only [ndA, List.map]
  refine PCall.intro (nt := 9) (rs := [.tmp 4]) Tryz.func91 rfl ⟨by kernel_rfl, by kernel_rfl, by kernel_rfl⟩ (by simp) ?_
  rintro ⟨P, w0, ok0, may, np, pblk⟩ rfl rfl
  repeat' (first | refine W.seq fun K hK => ?_ | refine W.block ?_ | ((first | refine wR ?_ | refine wD ?_ | refine W.skip ?_ | refine W.exit ?_ | refine W.ret (Post.ret ?_) | refine aP ?_ | refine aF ?_ | refine aH ?_); simp only [go_sem, reduceCtorEq]) | refine wT ?_ | refine wF ?_ | refine wC (fun h => ?_) (fun h => ?_) | refine iK ?_ | refine aI2 ?_ | (refine hK _ ?_; clear hK K) | clear hK K)
def fnd (l : List Nd) (id : Int) : Nat := (l.takeWhile fun n => decide (n.id < id)).length
def fndB (l : List Nd) (id : Int) : Bool := match l[fnd l id]? with | some n => n.id == id | none => false
theorem fnd_eq (id : Int) : ∀ (l : List Nd) (i : Nat), i ≤ l.length → (∀ a n, a < i → l[a]? = some n → n.id < id) → (∀ a n, i ≤ a → l[a]? = some n → ¬ n.id < id) → fnd l id = i
  | [], i, h, _, _ => by simp at h; subst h; rfl
  | x :: r, 0, _, _, h => by
    have := h 0 x (Nat.le_refl _) rfl
    simp [fnd, this]
  | x :: r, i + 1, hi, h1, h2 => by
    have hx := h1 0 x (Nat.succ_pos _) rfl
    have := fnd_eq id r i (by simpa using hi) (fun a n ha hn => h1 (a + 1) n (by omega) (by simpa using hn)) (fun a n ha hn => h2 (a + 1) n (by omega) (by simpa using hn))
    simp only [fnd] at this ⊢
    simp [hx, this]
theorem cmpI_lt (a b : Int) : (cmpI a b < 0) ↔ a < b := by unfold cmpI; split <;> (try split) <;> omega
theorem cmpI_eq (a b : Int) : (cmpI a b = 0) ↔ a = b := by unfold cmpI; split <;> (try split) <;> omega
theorem half_u (m : Nat) (h : m < 9223372036854775808) : IntKind.i64.wrap ((IntKind.u64.wrap (m : Int)).fdiv (2 ^ min (Int.toNat 1) 64)) = ((m / 2 : Nat) : Int) := by
  have e1 : IntKind.u64.wrap (m : Int) = (m : Int) := by rw [IntKind.wrap_u64]; omega
  have e2 : ((m : Int)).fdiv (2 ^ min (Int.toNat 1) 64) = ((m / 2 : Nat) : Int) := by
    rw [show (2 ^ min (Int.toNat 1) 64 : Int) = 2 from rfl, Int.fdiv_eq_ediv_of_nonneg _ (by decide)]
    omega
  rw [e1, e2, w64 (by omega) (by omega)]
theorem binSearch_c (l : List Nd) (id : Int) (hs : l.Pairwise fun a b => a.id < b.id) : PCall Tryz.prog 90 [ndsT l, ft (.int .i64 id), ft (.func (.func 91) #[] #[])] (.t [(false, [fl (.int .i64 (fnd l id : Nat))]), (false, [fl (.bool (fndB l id))])]) := by
  have c1 := index1_c
  refine PCall.intro (nt := 49) (rs := [.tmp 6, .tmp 7]) Tryz.func90 rfl ⟨by kernel_rfl, by kernel_rfl, by kernel_rfl⟩ (by simp) ?_
  rintro ⟨P, w0, ok0, may, np, pblk⟩ rfl rfl
  refine W.lenB 0 rfl tE35 fun _ hb => ?_
  rw [List.length_map] at hb
  repeat' (first | refine W.seq fun K hK => ?_ | refine W.block ?_ | ((first | refine wR ?_ | refine wD ?_ | refine W.skip ?_ | refine W.exit ?_ | refine W.ret (Post.ret ?_) | refine aP ?_ | refine aF ?_ | refine aH ?_); simp only [go_sem, reduceCtorEq, List.length_map]) | refine wT ?_ | refine wF ?_ | refine wC (fun h => ?_) (fun h => ?_) | refine iK ?_ | refine aI2 ?_ | (refine hK _ ?_; clear hK K) | clear hK K)
  refine W.loopF (T := fun y : Nat × Nat => { t := [(0, ndsT l), (1, ft (.int .i64 id)), (2, ft (.func (.func 91) #[] #[])), (6, ft (.int .i64 0)), (7, ft (.bool false)), (8, ft (.int .i64 l.length)), (9, ft (.int .i64 (y.1 : Nat))), (10, ft (.int .i64 (y.2 : Nat)))], h := [], nx := 0, ex := [], nt := 49 })
    (Inv := fun y => y.1 ≤ y.2 ∧ y.2 ≤ l.length ∧ (∀ a n, a < y.1 → l[a]? = some n → n.id < id) ∧ (∀ a n, y.2 ≤ a → l[a]? = some n → ¬ n.id < id)) (μ := fun y => y.2 - y.1) (x0 := (0, l.length)) (Fits.fit [] [0, 1, 2, 6, 7, 8, 9, 10] 0 rfl rfl ?_) ⟨Nat.zero_le _, Nat.le_refl _, fun a n h => by omega, fun a n h h2 => by rw [List.getElem?_eq_none h] at h2; cases h2⟩ ?_
  · simp only [go_sem]
    exact Fits.rfl
  rintro ⟨i, j⟩ ⟨hij, hjl, hlo, hhi⟩ KL hKL
  simp only at hij hjl hlo hhi
  by_cases hlt : i < j
  · have e1 : decide ((i : Int) < (j : Int)) = true := by simp; omega
    have e2 : IntKind.i64.wrap ((i : Int) + (j : Int)) = ((i + j : Nat) : Int) := by rw [w64 (by omega) (by omega)]; simp
    obtain ⟨x, hx, _, _⟩ := drop_at (show (i + j) / 2 < l.length by omega)
    have e3 := half_u (i + j) (by omega)
    have e4 := w64s ((i + j) / 2) (by omega)
    have hc := index1_c x id
    simp only [ndA, List.map] at hc
    clear c1
    by_cases hlx : x.id < id
    · have e5 : decide (cmpI x.id id < 0) = true := by simpa [cmpI_lt] using hlx
      repeat' (first | refine W.seq fun K hK => ?_ | refine W.block ?_ | ((first | refine wR ?_ | refine wD ?_ | refine W.skip ?_ | refine W.exit ?_ | refine W.ret (Post.ret ?_) | refine aP ?_ | refine aF ?_ | refine aH ?_); simp only [go_sem, reduceCtorEq, e1, e2, e3, e4, List.getElem?_map, hx, ndA, e5]) | refine wT ?_ | refine wF ?_ | refine wC (fun h => ?_) (fun h => ?_) | refine iK ?_ | refine aI2 ?_ | (refine hK _ ?_; clear hK K) | clear hK K)
      refine hKL.to ((i + j) / 2 + 1, j) ⟨by simp only; omega, hjl, fun a n ha hn => ?_, hhi⟩ (by simp only; omega) (Fits.fit [] [0, 1, 2, 6, 7, 8, 9, 10] 0 rfl rfl ?_)
      · have hal : a < l.length := (List.getElem?_eq_some_iff.1 hn).1
        by_cases ha2 : a = (i + j) / 2
        · subst ha2; rw [hx] at hn; cases hn; exact hlx
        · have ha : a < (i + j) / 2 + 1 := ha
          have h1 := List.pairwise_iff_getElem.1 hs a ((i + j) / 2) hal (by omega) (by omega)
          rw [List.getElem?_eq_getElem hal] at hn
          rw [List.getElem?_eq_getElem (by omega)] at hx
          simp only [Option.some.injEq] at hn hx
          subst hn
          rw [← hx] at hlx
          omega
      · simp only [go_sem]
        exact Fits.rfl
    · have e5 : decide (cmpI x.id id < 0) = false := by simp [cmpI_lt]; omega
      repeat' (first | refine W.seq fun K hK => ?_ | refine W.block ?_ | ((first | refine wR ?_ | refine wD ?_ | refine W.skip ?_ | refine W.exit ?_ | refine W.ret (Post.ret ?_) | refine aP ?_ | refine aF ?_ | refine aH ?_); simp only [go_sem, reduceCtorEq, e1, e2, e3, e4, List.getElem?_map, hx, ndA, e5]) | refine wT ?_ | refine wF ?_ | refine wC (fun h => ?_) (fun h => ?_) | refine iK ?_ | refine aI2 ?_ | (refine hK _ ?_; clear hK K) | clear hK K)
      refine hKL.to (i, (i + j) / 2) ⟨by simp only; omega, by simp only; omega, hlo, fun a n ha hn => ?_⟩ (by simp only; omega) (Fits.fit [] [0, 1, 2, 6, 7, 8, 9, 10] 0 rfl rfl ?_)
      · have hal : a < l.length := (List.getElem?_eq_some_iff.1 hn).1
        by_cases ha2 : a = (i + j) / 2
        · subst ha2; rw [hx] at hn; cases hn; exact hlx
        · have ha : (i + j) / 2 ≤ a := ha
          have h1 := List.pairwise_iff_getElem.1 hs ((i + j) / 2) a (by omega) hal (by omega)
          rw [List.getElem?_eq_getElem hal] at hn
          rw [List.getElem?_eq_getElem (by omega)] at hx
          simp only [Option.some.injEq] at hn hx
          subst hn
          rw [← hx] at hlx
          omega
      · simp only [go_sem]
        exact Fits.rfl
  · obtain rfl : i = j := by omega
    have e1 : decide ((i : Int) < (i : Int)) = false := by simp
    have hfe := fnd_eq id l i hjl hlo hhi
    clear hKL
    by_cases hil : i < l.length
    · obtain ⟨x, hx, _, _⟩ := drop_at hil
      have e2 : decide ((i : Int) < (l.length : Int)) = true := by simp; omega
      have hc := index1_c x id
      simp only [ndA, List.map] at hc
      clear c1
      have hfb : fndB l id = (cmpI x.id id == 0) := by
        simp only [fndB, hfe, hx]
        by_cases h : x.id = id
        · have := (cmpI_eq x.id id).2 h; simp [h, this]; rw [h] at this; exact this
        · have h2 : ¬ cmpI x.id id = 0 := fun e => h ((cmpI_eq _ _).1 e)
          rw [beq_eq_false_iff_ne.2 h, beq_eq_false_iff_ne.2 h2]
      repeat' (first | refine W.seq fun K hK => ?_ | refine W.block ?_ | ((first | refine wR ?_ | refine wD ?_ | refine W.skip ?_ | refine W.exit ?_ | refine W.ret (Post.ret ?_) | refine aP ?_ | refine aF ?_ | refine aH ?_); simp only [go_sem, reduceCtorEq, e1, e2, List.getElem?_map, hx, ndA]) | refine wT ?_ | refine wF ?_ | refine wC (fun h => ?_) (fun h => ?_) | refine iK ?_ | refine aI2 ?_ | (refine hK _ ?_; clear hK K) | clear hK K)
      rw [hfe, hfb]
    · have e2 : decide ((i : Int) < (l.length : Int)) = false := by simp; omega
      have hfb : fndB l id = false := by simp [fndB, hfe, List.getElem?_eq_none (show l.length ≤ i by omega)]
      repeat' (first | refine W.seq fun K hK => ?_ | refine W.block ?_ | ((first | refine wR ?_ | refine wD ?_ | refine W.skip ?_ | refine W.exit ?_ | refine W.ret (Post.ret ?_) | refine aP ?_ | refine aF ?_ | refine aH ?_); simp only [go_sem, reduceCtorEq, e1, e2]) | refine wT ?_ | refine wF ?_ | refine wC (fun h => ?_) (fun h => ?_) | refine iK ?_ | refine aI2 ?_ | (refine hK _ ?_; clear hK K) | clear hK K)
      rw [hfe, hfb]
theorem index_c (t : Tr) (id : Int) (hs : t.nds.Pairwise fun a b => a.id < b.id) : PCall Tryz.prog 57 [trT t, ft (.int .i64 id)] (.t [(false, [fl (.int .i64 (fnd t.nds id : Nat))]), (false, [fl (.bool (fndB t.nds id))])]) := by
  have c1 := binSearch_c t.nds id hs
  simp only [trT, trA, List.map]
  refine PCall.intro (nt := 12) (rs := [.tmp 4, .tmp 5]) Tryz.func57 rfl ⟨by kernel_rfl, by kernel_rfl, by kernel_rfl⟩ (by simp) ?_
  rintro ⟨P, w0, ok0, may, np, pblk⟩ rfl rfl
  repeat' (first | refine W.seq fun K hK => ?_ | refine W.block ?_ | ((first | refine wR ?_ | refine wD ?_ | refine W.skip ?_ | refine W.exit ?_ | refine W.ret (Post.ret ?_) | refine aP ?_ | refine aF ?_ | refine aH ?_); simp only [go_sem, reduceCtorEq]) | refine wT ?_ | refine wF ?_ | refine wC (fun h => ?_) (fun h => ?_) | refine iK ?_ | refine aI2 ?_ | (refine hK _ ?_; clear hK K) | clear hK K)
end Go.Proofs.YtigenjeealkdlaaGreat
namespace Go.Proofs.YtigenjeealkdlaaGreat
open Go.RowKit Go.Exe
theorem tI143 : TI Tryz.prog 143 = some (false, 1) := by kernel_rfl
theorem tE143 : EInfo Tryz.prog 143 = some (1, 8) := by kernel_rfl
theorem tZ143 : ZV Tryz.prog 143 = some [.nilFunc] := by kernel_rfl
theorem tG143 : ZG Tryz.prog 143 = some (false, [.nilFunc]) := by kernel_rfl
attribute [go_sem] tI143 tE143 tZ143 tG143
/-! ### what is below a span -/
def chOf (nds : List Nd) (id : Int) : Option (List Int) := match nds[fnd nds id]? with
  | some n => if n.id = id then some n.ch else none
  | none => none
def visF (nds : List Nd) : Nat → List Int → Int → List Int
  | 0, seen, _ => seen
  | n + 1, seen, id => match chOf nds id with
    | none => seen
    | some ch => if id ∈ seen then seen else ch.foldl (visF nds n) (seen ++ [id])
theorem chOf_B (nds : List Nd) (id : Int) : fndB nds id = (chOf nds id).isSome := by
  unfold fndB chOf
  cases nds[fnd nds id]? with
  | none => rfl
  | some n => by_cases h : n.id = id <;> simp [h]
structure OkS (nds : List Nd) (seen : List Int) : Prop where
  nd : seen.Nodup
  sub : ∀ x ∈ seen, x ∈ nds.map (·.id)
theorem chOf_mem {nds : List Nd} {id : Int} {ch : List Int} (h : chOf nds id = some ch) : ∃ n ∈ nds, nds[fnd nds id]? = some n ∧ n.id = id ∧ n.ch = ch := by
  unfold chOf at h
  cases hx : nds[fnd nds id]? with
  | none => rw [hx] at h; cases h
  | some n =>
    rw [hx] at h
    by_cases e : n.id = id
    · simp only [if_pos e, Option.some.injEq] at h
      exact ⟨n, List.mem_of_getElem? hx, rfl, e, h⟩
    · simp only [if_neg e] at h; cases h
theorem OkS.snoc {nds : List Nd} {seen : List Int} (h : OkS nds seen) {id : Int} {ch : List Int} (hc : chOf nds id = some ch) (hn : id ∉ seen) : OkS nds (seen ++ [id]) := by
  refine ⟨List.nodup_append.2 ⟨h.nd, by simp, fun x hx y hy => by simp at hy; subst hy; exact fun e => hn (e ▸ hx)⟩, fun x hx => ?_⟩
  rcases List.mem_append.1 hx with hx | hx
  · exact h.sub x hx
  · simp at hx
    subst hx
    obtain ⟨n, hm, _, e, _⟩ := chOf_mem hc
    exact List.mem_map.2 ⟨n, hm, e⟩
theorem OkS.len {nds : List Nd} {seen : List Int} (h : OkS nds seen) : seen.length ≤ nds.length := by
  have := h.nd.length_le_of_subset h.sub
  rwa [List.length_map] at this
theorem visF_ok (nds : List Nd) : ∀ (n : Nat) (seen : List Int) (id : Int), OkS nds seen → OkS nds (visF nds n seen id) ∧ seen.length ≤ (visF nds n seen id).length
  | 0, seen, id, h => ⟨h, Nat.le_refl _⟩
  | n + 1, seen, id, h => by
    unfold visF
    cases hc : chOf nds id with
    | none => exact ⟨h, Nat.le_refl _⟩
    | some ch =>
      by_cases hn : id ∈ seen
      · simp only [if_pos hn]; exact ⟨h, Nat.le_refl _⟩
      · simp only [if_neg hn]
        have key : ∀ (ch : List Int) (s : List Int), OkS nds s → OkS nds (ch.foldl (visF nds n) s) ∧ s.length ≤ (ch.foldl (visF nds n) s).length := by
          intro ch
          induction ch with
          | nil => exact fun s h => ⟨h, Nat.le_refl _⟩
          | cons c r ih =>
            intro s h
            have h1 := visF_ok nds n s c h
            have h2 := ih _ h1.1
            exact ⟨h2.1, Nat.le_trans h1.2 h2.2⟩
        have := key ch _ (h.snoc hc hn)
        rw [List.length_append] at this
        exact ⟨this.1, by omega⟩
theorem msE_in {ks : List Int} {k : Int} (h : k ∈ ks) : mget (.int .i64 k) (msE ks) = some (false, [fl (.bool true)]) := by
  induction ks with
  | nil => cases h
  | cons y r ih =>
    simp only [msE, List.map_cons, mget] at ih ⊢
    by_cases e : y = k
    · subst e; simp
    · rw [if_neg (by simpa using e)]
      exact ih ((List.mem_cons.1 h).resolve_left fun e2 => e e2.symm)
theorem msE_out {ks : List Int} {k : Int} (h : k ∉ ks) : mget (.int .i64 k) (msE ks) = none := by
  induction ks with
  | nil => rfl
  | cons y r ih =>
    simp only [msE, List.map_cons, mget] at ih ⊢
    rw [if_neg (by simpa using fun e : y = k => h (by simp [e]))]
    exact ih fun h2 => h (by simp [h2])
attribute [local irreducible] W AX Run RunD AStep AOp AOpX AStB AStH AStG Fits PCall GCall PostG Post Stop
theorem visit_c {t : Tr} (hs : t.nds.Pairwise fun a b => a.id < b.id) (hI : ∀ n ∈ t.nds, ∀ c ∈ n.ch, I64 c) {l : Nat} {J : List Int → (Nat → Prop) → List Nat → World → Prop} (hJ : ∀ pre, RStable (J pre)) (hY : ∀ pre x, pre.length < t.nds.length → YC Tryz.prog l (J pre) (ft (.int .i64 x)) (J (pre ++ [x]))) :
    ∀ (n : Nat) (seen : List Int) (id : Int), OkS t.nds seen → t.nds.length < n + seen.length → I64 id →
      GCall Tryz.prog 89 5 (St.g [ft (.int .i64 id), .c (.im (.pt (trA t))), .c (.ptr 1 0), .c (.ptr 3 0), .c (.ptr 4 0)] [(0, .raw (J seen)), (1, .box 96 [.mp 2]), (2, .map 3 (msE seen)), (3, .box 143 [fl (.func (.yield l) #[] #[])]), (4, .box 143 [.clq 89 [.pt (trA t)] [(1, 0), (3, 0), (4, 0)]])] 5)
        (St.r (ft (.bool true)) [(0, .raw (J (visF t.nds n seen id))), (1, .box 96 [.mp 2]), (2, .map 3 (msE (visF t.nds n seen id))), (3, .box 143 [fl (.func (.yield l) #[] #[])]), (4, .box 143 [.clq 89 [.pt (trA t)] [(1, 0), (3, 0), (4, 0)]])] 5) := by
  intro n
  induction n with
  | zero => intro seen id hok hlt; have := hok.len; omega
  | succ n ih =>
    intro seen id hok hlt hid
    have ci := index_c t id hs
    have hko := koI hid
    unfold visF
    simp only [trT, trA, List.map] at ci ⊢
    cases hc : chOf t.nds id with
    | none =>
      have hb : fndB t.nds id = false := by rw [chOf_B, hc]; rfl
      rw [hb] at ci
      clear ih
      refine GCall.introG (nt := 46) (rs := [.tmp 6]) Tryz.func89 rfl ⟨by kernel_rfl, by kernel_rfl, by kernel_rfl⟩ (by simp) ?_
      rintro ⟨P, w0, ok0, may, np, pblk⟩ rfl rfl
      simp only [go_sem]
      repeat' (first | refine W.seq fun K hK => ?_ | refine W.block ?_ | ((first | refine wR ?_ | refine wD ?_ | refine W.skip ?_ | refine W.exit ?_ | refine W.ret (Post.ret ?_) | refine aP ?_ | refine aF ?_ | refine aY (k0 := 0) ?_ | refine aL ?_ | refine aU ?_ | refine aM ?_ | refine aN ?_ | refine aR ?_); simp only [go_sem, reduceCtorEq]) | refine wT ?_ | refine wF ?_ | refine wC (fun h => ?_) (fun h => ?_) | refine iK ?_ | refine aI2 ?_ | (refine hK _ ?_; clear hK K) | clear hK K)
      refine W.ret (PostG.ret (Fits.fit [(0, 0), (1, 1), (2, 2), (3, 3), (4, 4)] [6] 5 rfl rfl Fits.rfl) rfl rfl ?_)
      simp only [St.r, go_sem, rnEs_msE]
    | some ch =>
      have hb : fndB t.nds id = true := by rw [chOf_B, hc]; rfl
      rw [hb] at ci
      by_cases hin : id ∈ seen
      · have hget := msE_in hin
        simp only [if_pos hin]
        clear ih
        refine GCall.introG (nt := 46) (rs := [.tmp 6]) Tryz.func89 rfl ⟨by kernel_rfl, by kernel_rfl, by kernel_rfl⟩ (by simp) ?_
        rintro ⟨P, w0, ok0, may, np, pblk⟩ rfl rfl
        simp only [go_sem]
        repeat' (first | refine W.seq fun K hK => ?_ | refine W.block ?_ | ((first | refine wR ?_ | refine wD ?_ | refine W.skip ?_ | refine W.exit ?_ | refine W.ret (Post.ret ?_) | refine aP ?_ | refine aF ?_ | refine aY (k0 := 0) ?_ | refine aL ?_ | refine aU (hnn := by simp only [go_sem, reduceCtorEq, hget]) ?_ | refine aM ?_ | refine aN ?_ | refine aR ?_); simp only [go_sem, reduceCtorEq, hget]) | refine wT ?_ | refine wF ?_ | refine wC (fun h => ?_) (fun h => ?_) | refine iK ?_ | refine aI2 ?_ | (refine hK _ ?_; clear hK K) | clear hK K)
        refine W.ret (PostG.ret (Fits.fit [(0, 0), (1, 1), (2, 2), (3, 3), (4, 4)] [6] 5 rfl rfl Fits.rfl) rfl rfl ?_)
        simp only [St.r, go_sem, rnEs_msE]
      · obtain ⟨nd, hnm, hnf, hne, hnc⟩ := chOf_mem hc
        have hok2 := hok.snoc hc hin
        have hl2 := hok2.len
        rw [List.length_append, List.length_singleton] at hl2
        have hget := msE_out hin
        have hput : mput (Value.int .i64 id) (false, [fl (.bool true)]) (msE seen) = msE (seen ++ [id]) := by rw [msE_put]; simp [addK, hin]
        have hy := hY seen id (by omega)
        have hIc : ∀ c ∈ ch, I64 c := fun c hcm => hI nd hnm c (hnc ▸ hcm)
        simp only [if_neg hin]
        have hix : (t.nds.map ndA)[fnd t.nds id]? = some (ndA nd) := by rw [List.getElem?_map, hnf]; rfl
        have hlt2 : fnd t.nds id < t.nds.length := (List.getElem?_eq_some_iff.1 hnf).1
        have f1 : decide (fnd t.nds id < t.nds.length) = true := by simp [hlt2]
        subst hnc
        refine GCall.introG (nt := 46) (rs := [.tmp 6]) Tryz.func89 rfl ⟨by kernel_rfl, by kernel_rfl, by kernel_rfl⟩ (by simp) ?_
        rintro ⟨P, w0, ok0, may, np, pblk⟩ rfl rfl
        simp only [go_sem]
        repeat' (first | refine W.seq fun K hK => ?_ | refine W.block ?_ | ((first | refine wR ?_ | refine wD ?_ | refine W.skip ?_ | refine W.exit ?_ | refine W.ret (Post.ret ?_) | refine aP ?_ | refine aF ?_ | refine aY (k0 := 0) ?_ | refine aL ?_ | refine aU (hnn := by simp only [go_sem, reduceCtorEq, hget, hput, hko, hix, ndA, f1, List.length_map]) ?_ | refine aM ?_ | refine aN ?_ | refine aR ?_); simp only [go_sem, reduceCtorEq, hget, hput, hko, hix, ndA, f1, List.length_map]) | refine wT ?_ | refine wF ?_ | refine wC (fun h => ?_) (fun h => ?_) | refine iK ?_ | refine aI2 ?_ | (refine hK _ ?_; clear hK K) | clear hK K)
        refine W.lenB 35 rfl tE3 fun _ hcb => ?_
        rw [List.length_map] at hcb
        clear hget hput hix f1 ci hy
        obtain ⟨sq, hsq⟩ : ∃ sq : Nat → List Int, sq = fun i => (nd.ch.take i).foldl (visF t.nds n) (seen ++ [id]) := ⟨_, rfl⟩
        have hsq0 : sq 0 = seen ++ [id] := by rw [hsq]; rfl
        have hsqe : sq nd.ch.length = nd.ch.foldl (visF t.nds n) (seen ++ [id]) := by rw [hsq]; simp
        have hsqs : ∀ i c, nd.ch[i]? = some c → sq (i + 1) = visF t.nds n (sq i) c := fun i c hc => by rw [hsq]; simp only [List.take_add_one, hc, Option.toList_some, List.foldl_append, List.foldl_cons, List.foldl_nil]
        rw [← hsqe, ← hsq0]
        refine W.loopF (T := fun i : Nat => { t := [(2, .c (.ptr 1 0)), (3, .c (.ptr 3 0)), (4, .c (.ptr 4 0)), (35, intsT nd.ch), (36, ft (.int .i64 nd.ch.length)), (37, ft (.int .i64 (i : Nat)))], h := [(0, .raw (J (sq i))), (1, .box 96 [.mp 2]), (2, .map 3 (msE (sq i))), (3, .box 143 [fl (.func (.yield l) #[] #[])]), (4, .box 143 [.clq 89 [.pt (trA t)] [(1, 0), (3, 0), (4, 0)]])], nx := 5, ex := [], nt := 46 })
          (Inv := fun i => i ≤ nd.ch.length ∧ OkS t.nds (sq i) ∧ seen.length + 1 ≤ (sq i).length) (μ := fun i => nd.ch.length - i) (x0 := 0) ?_ ⟨Nat.zero_le _, by rw [hsq0]; exact hok2, by rw [hsq0]; simp⟩ ?_
        · refine Fits.fit [(0, 0), (1, 1), (2, 2), (3, 3), (4, 4)] [2, 3, 4, 35, 36, 37] 5 rfl rfl ?_
          simp only [go_sem, rnEs_msE, trA]
          exact Fits.rfl
        rintro i ⟨hi, hoki, hli⟩ KL hKL
        by_cases hlt : i < nd.ch.length
        · obtain ⟨c, hx, hm, _⟩ := drop_at hlt
          have e1 : decide ((i : Int) < nd.ch.length) = true := by simp; omega
          have e2 : decide (i < nd.ch.length) = true := by simp; omega
          have hw := w64s i (by omega)
          have hG := (ih (sq i) c hoki (by omega) (hIc c hm)).toE
          have hst := hsqs i c hx
          have hv := visF_ok t.nds n (sq i) c hoki
          rw [← hst] at hv hG
          clear ih hsqs hsqe hsq0
          repeat' (first | refine W.stop (id := 10) ?_ | refine W.seq fun K hK => ?_ | refine W.block ?_ | ((first | refine wR ?_ | refine wD ?_ | refine W.skip ?_ | refine W.exit ?_ | refine W.ret (Post.ret ?_) | refine aP ?_ | refine aF ?_ | refine aY (k0 := 0) ?_ | refine aL ?_ | refine aU (hnn := by simp only [go_sem, reduceCtorEq, List.getElem?_map, hx, iA, e1, e2, List.length_map]) ?_ | refine aM ?_ | refine aN ?_ | refine aR ?_); simp only [go_sem, reduceCtorEq, List.getElem?_map, hx, iA, e1, e2, List.length_map]) | refine wT ?_ | refine wF ?_ | refine wC (fun h => ?_) (fun h => ?_) | refine iK ?_ | refine aI2 ?_ | (refine hK _ ?_; clear hK K) | clear hK K)
          refine Stop.out ?_
          refine W.regE ?_
          refine ⟨rfl, OpE.ofAOp 900 (by simp [St.used]) ?_⟩
          simp only [go_sem]
          refine ⟨rfl, OpE.ofAOp 901 (by simp [St.used]) ?_⟩
          simp only [go_sem]
          refine ⟨rfl, OpE.gcallQ 902 [0, 1, 2, 3, 4] rfl rfl hG rfl (by simp only [go_sem, rnEs_msE]) rfl rfl rfl rfl (fun _ _ => rfl) rfl rfl (by simp [St.used]) fun _ _ => ?_⟩
          simp only [go_sem, rnEs_msE]
          refine ⟨rfl, OpE.ofAOp 903 (by simp [St.used]) ?_⟩
          simp only [go_sem]
          refine ⟨_, Fits.fit [(0, 0), (1, 1), (2, 2), (3, 3), (4, 4)] [2, 3, 4, 35, 36, 37, 44] 5 rfl rfl Fits.rfl, ?_⟩
          simp only [go_sem, rnEs_msE]
          repeat' (first | refine W.seq fun K hK => ?_ | refine W.block ?_ | ((first | refine wR ?_ | refine wD ?_ | refine W.skip ?_ | refine W.exit ?_ | refine W.ret (Post.ret ?_) | refine aP ?_ | refine aF ?_ | refine aY (k0 := 0) ?_ | refine aL ?_ | refine aU (hnn := by simp only [go_sem, reduceCtorEq, hw]) ?_ | refine aM ?_ | refine aN ?_ | refine aR ?_); simp only [go_sem, reduceCtorEq, hw]) | refine wT ?_ | refine wF ?_ | refine wC (fun h => ?_) (fun h => ?_) | refine iK ?_ | refine aI2 ?_ | (refine hK _ ?_; clear hK K) | clear hK K)
          refine hKL.to (i + 1) ⟨by omega, hv.1, by omega⟩ (by omega) ?_
          refine Fits.fit [(0, 0), (1, 1), (2, 2), (3, 3), (4, 4)] [2, 3, 4, 35, 36, 37] 5 rfl rfl ?_
          simp only [go_sem, rnEs_msE]
          exact Fits.rfl
        · obtain rfl : i = nd.ch.length := by omega
          have e1 : decide ((nd.ch.length : Int) < nd.ch.length) = false := by simp
          clear hKL ih
          repeat' (first | refine W.seq fun K hK => ?_ | refine W.block ?_ | ((first | refine wR ?_ | refine wD ?_ | refine W.skip ?_ | refine W.exit ?_ | refine W.ret (Post.ret ?_) | refine aP ?_ | refine aF ?_ | refine aY (k0 := 0) ?_ | refine aL ?_ | refine aU (hnn := by simp only [go_sem, reduceCtorEq, e1]) ?_ | refine aM ?_ | refine aN ?_ | refine aR ?_); simp only [go_sem, reduceCtorEq, e1]) | refine wT ?_ | refine wF ?_ | refine wC (fun h => ?_) (fun h => ?_) | refine iK ?_ | refine aI2 ?_ | (refine hK _ ?_; clear hK K) | clear hK K)
          refine W.ret (PostG.ret (Fits.fit [(0, 0), (1, 1), (2, 2), (3, 3), (4, 4)] [6] 5 rfl rfl Fits.rfl) rfl rfl ?_)
          simp only [St.r, go_sem, rnEs_msE, trA, hsqe]
def subF (nds : List Nd) (id : Int) : List Int := visF nds (nds.length + 1) [] id
theorem below1_it {t : Tr} (hs : t.nds.Pairwise fun a b => a.id < b.id) (hI : ∀ n ∈ t.nds, ∀ c ∈ n.ch, I64 c) (id : Int) (hid : I64 id) : ItC Tryz.prog 88 [.c (.im (.pt (trA t))), .c (.im (.pt [.flat (.int .i64 id)]))] (fun k => ft (.int .i64 k)) (fun ys => ys = subF t.nds id) t.nds.length := by
  intro l J hJ hY
  have hG := (visit_c hs hI hJ hY (t.nds.length + 1) [] id ⟨List.nodup_nil, by simp⟩ (by simp) hid).toE
  rw [show visF t.nds (t.nds.length + 1) [] id = subF t.nds id from rfl] at hG
  refine GCall.introG (nt := 11) (rs := []) Tryz.func88 rfl ⟨by kernel_rfl, by kernel_rfl, by kernel_rfl⟩ (by simp) ?_
  rintro ⟨P, w0, ok0, may, np, pblk⟩ rfl rfl
  simp only [go_sem]
  repeat' (first | refine W.stop (id := 3) ?_ | refine W.seq fun K hK => ?_ | refine W.block ?_ | ((first | refine wR ?_ | refine wD ?_ | refine W.skip ?_ | refine W.exit ?_ | refine W.ret (Post.ret ?_) | refine aP ?_ | refine aF ?_ | refine aY (k0 := 0) ?_ | refine aL ?_ | refine aU ?_ | refine aM ?_ | refine aN ?_ | refine aR ?_); simp only [go_sem, reduceCtorEq]) | refine wT ?_ | refine wF ?_ | refine wC (fun h => ?_) (fun h => ?_) | refine iK ?_ | refine aI2 ?_ | (refine hK _ ?_; clear hK K) | clear hK K)
  refine Stop.out ?_
  clear hY
  refine W.fits (s' := { t := [(1, .c (.im (.pt (trA t)))), (2, .c (.im (.pt [.flat (.int .i64 id)]))), (3, .c (.ptr 3 0)), (4, .c (.ptr 1 0)), (5, .c (.ptr 4 0))], h := [(0, .raw (J [])), (1, .box 96 [.mp 2]), (2, .map 3 (msE [])), (3, .box 143 [fl (.func (.yield l) #[] #[])]), (4, .box 143 [fl .nilFunc])], nx := 5, ex := [], nt := 11 }) ?_ ?_
  · refine Fits.fit [(0, 0), (3, 1), (2, 2), (1, 3), (5, 4)] [1, 2, 3, 4, 5] 5 rfl rfl ?_
    exact Fits.rfl
  refine W.regE ?_
  refine ⟨rfl, OpE.makeFnQ (y1 := [.tmp 1]) (y2 := [.tmp 4, .tmp 3, .tmp 5]) rfl rfl rfl rfl rfl ?_⟩
  simp only [go_sem]
  refine ⟨rfl, OpE.ofAOp 901 (by simp [St.used]) ?_⟩
  simp only [go_sem]
  refine ⟨_, Fits.fit [(0, 0), (1, 1), (2, 2), (3, 3), (4, 4)] [2, 5] 5 rfl rfl Fits.rfl, ?_⟩
  simp only [go_sem, rnEs_msE]
  repeat' (first | refine W.stop (id := 4) ?_ | refine W.seq fun K hK => ?_ | refine W.block ?_ | ((first | refine wR ?_ | refine wD ?_ | refine W.skip ?_ | refine W.exit ?_ | refine W.ret (Post.ret ?_) | refine aP ?_ | refine aF ?_ | refine aY (k0 := 0) ?_ | refine aL ?_ | refine aU ?_ | refine aM ?_ | refine aN ?_ | refine aR ?_); simp only [go_sem, reduceCtorEq]) | refine wT ?_ | refine wF ?_ | refine wC (fun h => ?_) (fun h => ?_) | refine iK ?_ | refine aI2 ?_ | (refine hK _ ?_; clear hK K) | clear hK K)
  refine Stop.out ?_
  refine W.regE ?_
  refine ⟨rfl, OpE.ofAOp 900 (by simp [St.used]) ?_⟩
  simp only [go_sem]
  refine ⟨rfl, OpE.ofAOp 901 (by simp [St.used]) ?_⟩
  simp only [go_sem]
  refine ⟨rfl, OpE.gcallQ 902 [0, 1, 2, 3, 4] rfl rfl hG rfl (by simp only [go_sem, rnEs_msE]) rfl rfl rfl rfl (fun _ _ => rfl) rfl rfl (by simp [St.used]) fun _ _ => ?_⟩
  simp only [go_sem, rnEs_msE]
  refine ⟨_, Fits.rfl, ?_⟩
  refine PostG.normal (Fits.weak 0 (o1 := .raw fun ok B w => ∃ ys, ys = subF t.nds id ∧ J ys ok B w) rfl rfl (fun ok w L h => ?_) (Fits.fit [(0, 0)] [] 1 rfl rfl Fits.rfl)) rfl rfl ?_
  · obtain ⟨h1, h2, _⟩ := h
    exact ⟨h1, ⟨_, rfl, h2⟩, fun ok ok' B w w' ⟨ys, e, hj⟩ k1 k2 => ⟨ys, e, hJ _ ok ok' B w w' hj k1 k2⟩⟩
  · simp only [St.r, go_sem]
theorem below_c (t : Tr) (id : Int) : PCall Tryz.prog 55 [trT t, ft (.int .i64 id)] (.c (.im (.fn 88 [.pt (trA t), .pt [.flat (.int .i64 id)]]))) := by
  simp only [trT, trA, List.map]
  refine PCall.intro (nt := 6) (rs := [.tmp 4]) Tryz.func55 rfl ⟨by kernel_rfl, by kernel_rfl, by kernel_rfl⟩ (by simp) ?_
  rintro ⟨P, w0, ok0, may, np, pblk⟩ rfl rfl
  repeat' (first | refine W.stop (id := 1) ?_ | refine W.seq fun K hK => ?_ | refine W.block ?_ | ((first | refine wR ?_ | refine wD ?_ | refine W.skip ?_ | refine W.exit ?_ | refine W.ret (Post.ret ?_) | refine aP ?_ | refine aF ?_ | refine aY (k0 := 0) ?_ | refine aL ?_ | refine aU ?_ | refine aM ?_ | refine aN ?_ | refine aR ?_); simp only [go_sem, reduceCtorEq]) | refine wT ?_ | refine wF ?_ | refine wC (fun h => ?_) (fun h => ?_) | refine iK ?_ | refine aI2 ?_ | (refine hK _ ?_; clear hK K) | clear hK K)
  refine Stop.out ?_
  refine W.fits (s' := { t := [(2, .c (.ip (trA t))), (3, .c (.ip [.flat (.int .i64 id)]))], h := [], nx := 2, ex := [], nt := 6 }) (Fits.seeP 2 0 rfl rfl rfl (Fits.seeP 3 1 rfl rfl rfl (Fits.fit [] [2, 3] 2 rfl rfl Fits.rfl))) ?_
  refine W.regE ?_
  refine ⟨rfl, OpE.makeFnPs rfl rfl rfl ?_⟩
  simp only [go_sem]
  refine ⟨rfl, OpE.ofAOp 901 (by simp [St.used]) ?_⟩
  simp only [go_sem]
  refine ⟨_, Fits.fit [] [4] 0 rfl rfl Fits.rfl, ?_⟩
  simp only [go_sem]
  repeat' (first | refine W.seq fun K hK => ?_ | refine W.block ?_ | ((first | refine wR ?_ | refine wD ?_ | refine W.skip ?_ | refine W.exit ?_ | refine W.ret (Post.ret ?_) | refine aP ?_ | refine aF ?_ | refine aY (k0 := 0) ?_ | refine aL ?_ | refine aU (hnn := by simp only [go_sem, reduceCtorEq, trA]) ?_ | refine aM ?_ | refine aN ?_ | refine aR ?_); simp only [go_sem, reduceCtorEq, trA]) | refine wT ?_ | refine wF ?_ | refine wC (fun h => ?_) (fun h => ?_) | refine iK ?_ | refine aI2 ?_ | (refine hK _ ?_; clear hK K) | clear hK K)
theorem subtree_c (t : Tr) (hs : t.nds.Pairwise fun a b => a.id < b.id) (hI : ∀ n ∈ t.nds, ∀ c ∈ n.ch, I64 c) (id : Int) (hid : I64 id) (hlen : t.nds.length * 8 ≤ 140737488355328) : PCall Tryz.prog 15 [trT t, ft (.int .i64 id)] (intsT (subF t.nds id)) := by
  have c1 := below_c t id
  have c2 := collectI_c 88 [.pt (trA t), .pt [.flat (.int .i64 id)]] _ _ (below1_it hs hI id hid) hlen
  have c3 := c2.det
  clear c2
  simp only [trT, trA, List.map] at c1 ⊢
  simp only [trA] at c3
  refine PCall.intro (nt := 9) (rs := [.tmp 4]) Tryz.func15 rfl ⟨by kernel_rfl, by kernel_rfl, by kernel_rfl⟩ (by simp) ?_
  rintro ⟨P, w0, ok0, may, np, pblk⟩ rfl rfl
  repeat' (first | refine W.seq fun K hK => ?_ | refine W.block ?_ | ((first | refine wR ?_ | refine wD ?_ | refine W.skip ?_ | refine W.exit ?_ | refine W.ret (Post.ret ?_) | refine aP ?_ | refine aF ?_ | refine aY (k0 := 0) ?_ | refine aL ?_ | refine aU ?_ | refine aM ?_ | refine aN ?_ | refine aR ?_); simp only [go_sem, reduceCtorEq]) | refine wT ?_ | refine wF ?_ | refine wC (fun h => ?_) (fun h => ?_) | refine iK ?_ | refine aI2 ?_ | (refine hK _ ?_; clear hK K) | clear hK K)
  refine AX.gcall [] rfl rfl (c3) (by simp only [go_sem, reduceCtorEq]) (by simp only [go_sem, reduceCtorEq]) rfl rfl (by simp only [go_sem, Obj.owns]) rfl (by simp only [go_sem, Obj.owns]) rfl rfl ?_
  simp only [go_sem, reduceCtorEq]
  repeat' (first | refine W.seq fun K hK => ?_ | refine W.block ?_ | ((first | refine wR ?_ | refine wD ?_ | refine W.skip ?_ | refine W.exit ?_ | refine W.ret (Post.ret ?_) | refine aP ?_ | refine aF ?_ | refine aY (k0 := 0) ?_ | refine aL ?_ | refine aU ?_ | refine aM ?_ | refine aN ?_ | refine aR ?_); simp only [go_sem, reduceCtorEq]) | refine wT ?_ | refine wF ?_ | refine wC (fun h => ?_) (fun h => ?_) | refine iK ?_ | refine aI2 ?_ | (refine hK _ ?_; clear hK K) | clear hK K)
end Go.Proofs.YtigenjeealkdlaaGreat
namespace Go.Proofs.YtigenjeealkdlaaGreat
open Go.RowKit Go.Exe
/-! ### the assembler: its records -/
abbrev RM := List (Int × List Spn)
def rcE (m : RM) : List (Value × Bool × List Cell) := m.map fun y => (.int .i64 y.1, false, [.im (.sl 88 (y.2.map spA))])
theorem fn_arg2 {f g : Nat} {a : TV} {r : TV} (h : PCall Tryz.prog f [a, .c (.im (.fn g []))] r) : PCall Tryz.prog f [a, ft (.func (.func g) #[] #[])] r := by
  refine ⟨h.1, fun ok w vs hvs => h.2 ok w vs ⟨hvs.1, fun i v y h1 h2 => ?_⟩⟩
  rcases i with _ | _ | i
  · exact hvs.2 0 v y h1 (by simpa using h2)
  · have h3 := hvs.2 1 v (ft (.func (.func g) #[] #[])) h1 rfl
    simp only [List.getElem?_cons_succ, List.getElem?_cons_zero, Option.some.injEq] at h2
    subst h2
    have h4 : v = .func (.func g) #[] #[] := RepA.flat_eq h3
    subst h4
    exact RepA.fn (cs := []) (fun _ => default) (by simp)
  · simp at h2
attribute [local irreducible] W AX Run RunD AStep AOp AOpX AStB AStH AStG Fits PCall GCall PostG Post Stop
theorem new_c : GCall Tryz.prog 35 0 (St.g [] [] 0) (St.r (.c (.ptr 1 0)) [(0, .map 3 (rcE [])), (1, .box 115 [.mp 0])] 2) := by
  refine GCall.introG (nt := 4) (rs := [.tmp 0]) Tryz.func35 rfl ⟨by kernel_rfl, by kernel_rfl, by kernel_rfl⟩ (by simp) ?_
  rintro ⟨P, w0, ok0, may, np, pblk⟩ rfl rfl
  simp only [go_sem]
  repeat' (first | refine W.seq fun K hK => ?_ | refine W.block ?_ | ((first | refine wR ?_ | refine wD ?_ | refine W.skip ?_ | refine W.exit ?_ | refine W.ret (Post.ret ?_) | refine aP ?_ | refine aF ?_ | refine aL ?_ | refine aU ?_ | refine aM ?_ | refine aN ?_ | refine aR ?_); simp only [go_sem, reduceCtorEq]) | refine wT ?_ | refine wF ?_ | refine wC (fun h => ?_) (fun h => ?_) | refine iK ?_ | refine aI2 ?_ | (refine hK _ ?_; clear hK K) | clear hK K)
  refine W.ret (PostG.ret (Fits.fit [(1, 0), (3, 1)] [0] 2 rfl rfl Fits.rfl) rfl rfl ?_)
  rfl
theorem imR_appS (l m : List Spn) : imR (l.map spA) ++ imR (m.map spA) = imR ((l ++ m).map spA) := by simp [imR]
theorem chosen_all (l : List Spn) : ∀ n, n ≤ l.length → chosenN (fun _ => true) l n = l.take n
  | 0, _ => by simp [chosenN]
  | n + 1, h => by
    rw [chosenN, chosen_all l n (by omega), List.take_add_one, List.getElem?_eq_getElem (by omega)]
    simp [List.getD_eq_getElem?_getD, List.getElem?_eq_getElem (show n < l.length by omega)]
theorem set1_c (i : Int) : PCall Tryz.prog 102 [ft (.int .i64 i)] (ft (.bool true)) := by
  refine PCall.intro (nt := 3) (rs := [.tmp 2]) Tryz.func102 rfl ⟨by kernel_rfl, by kernel_rfl, by kernel_rfl⟩ (by simp) ?_
  rintro ⟨P, w0, ok0, may, np, pblk⟩ rfl rfl
  repeat' (first | refine W.seq fun K hK => ?_ | refine W.block ?_ | ((first | refine wR ?_ | refine wD ?_ | refine W.skip ?_ | refine W.exit ?_ | refine W.ret (Post.ret ?_) | refine aP ?_ | refine aF ?_ | refine aL ?_ | refine aU ?_ | refine aM ?_ | refine aN ?_ | refine aR ?_); simp only [go_sem, reduceCtorEq]) | refine wT ?_ | refine wF ?_ | refine wC (fun h => ?_) (fun h => ?_) | refine iK ?_ | refine aI2 ?_ | (refine hK _ ?_; clear hK K) | clear hK K)
theorem set65_c (c144 : SortC Tryz.prog 144 14) (l : List Spn) : PCall Tryz.prog 65 [spsT l] (spsT (setS l)) := by
  have c1 := set_c c144 l
  have c2 := fn_arg2 (chosen_c (setS l) 102 [] (fun _ => true) fun i _ => set1_c i)
  rw [chosen_all _ _ (Nat.le_refl _), List.take_length] at c2
  clear c144
  refine PCall.intro (nt := 6) (rs := [.tmp 2]) Tryz.func65 rfl ⟨by kernel_rfl, by kernel_rfl, by kernel_rfl⟩ (by simp) ?_
  rintro ⟨P, w0, ok0, may, np, pblk⟩ rfl rfl
  repeat' (first | refine W.seq fun K hK => ?_ | refine W.block ?_ | ((first | refine wR ?_ | refine wD ?_ | refine W.skip ?_ | refine W.exit ?_ | refine W.ret (Post.ret ?_) | refine aP ?_ | refine aF ?_ | refine aL ?_ | refine aU ?_ | refine aM ?_ | refine aN ?_ | refine aR ?_); simp only [go_sem, reduceCtorEq]) | refine wT ?_ | refine wF ?_ | refine wC (fun h => ?_) (fun h => ?_) | refine iK ?_ | refine aI2 ?_ | (refine hK _ ?_; clear hK K) | clear hK K)
abbrev listsST (ls : List (List Spn)) : TV := .c (.im (.sl 30 (ls.map fun l => [.sl 88 (l.map spA)])))
theorem take_flatS {ls : List (List Spn)} {i : Nat} {l : List Spn} (h : ls[i]? = some l) : (ls.take (i + 1)).flatten = (ls.take i).flatten ++ l := by
  rw [List.take_add_one, h]; simp
theorem flat_leS {ls : List (List Spn)} (i : Nat) : (ls.take i).flatten.length ≤ ls.flatten.length := by
  rw [show ls.flatten = (ls.take i).flatten ++ (ls.drop i).flatten by rw [← List.flatten_append, List.take_append_drop]]
  simp
theorem concatS_c (g122 : GrowC Tryz.prog 122 88 14 168) (ls : List (List Spn)) (hb : ls.flatten.length * 168 ≤ 140737488355328) : PCall Tryz.prog 104 [listsST ls] (spsT ls.flatten) := by
  have hg := g122.call tE88 (by decide) ls.flatten.length hb (by omega)
  refine PCall.intro (nt := 36) (rs := [.tmp 2]) Tryz.func104 rfl ⟨by kernel_rfl, by kernel_rfl, by kernel_rfl⟩ (by simp) ?_
  rintro ⟨P, w0, ok0, may, np, pblk⟩ rfl rfl
  refine W.lenIm 0 rfl fun hlen => ?_
  rw [List.length_map, maxLen_is] at hlen
  repeat' (first | refine W.seq fun K hK => ?_ | refine W.block ?_ | ((first | refine wR ?_ | refine wD ?_ | refine W.skip ?_ | refine W.exit ?_ | refine W.ret (Post.ret ?_) | refine aP ?_ | refine aF ?_); simp only [go_sem, reduceCtorEq, List.length_map]) | refine wT ?_ | refine wF ?_ | refine wC (fun h => ?_) (fun h => ?_) | refine iK ?_ | refine aI2 ?_ | (refine hK _ ?_; clear hK K) | clear hK K)
  refine W.loopF (T := fun i : Nat => { t := [(0, listsST ls), (3, ft (.int .i64 ((ls.take i).flatten.length : Nat))), (9, listsST ls), (10, ft (.int .i64 ls.length)), (11, ft (.int .i64 (i : Nat)))], h := [], nx := 0, ex := [], nt := 36 })
    (Inv := fun i => i ≤ ls.length) (μ := fun i => ls.length - i) (x0 := 0) (Fits.fit [] [0, 3, 9, 10, 11] 0 rfl rfl ?_) (Nat.zero_le _) ?_
  · simp only [go_sem]
    exact Fits.rfl
  rintro i hi KL hKL
  by_cases hlt : i < ls.length
  · obtain ⟨l, hx, hm, hd⟩ := drop_at hlt
    have e1 : decide ((i : Int) < ls.length) = true := by simp; omega
    have hw := w64s i (by omega)
    have hfl := flat_leS (ls := ls) (i + 1)
    rw [take_flatS hx, List.length_append] at hfl
    have e2 : IntKind.i64.wrap (((ls.take i).flatten.length : Int) + (l.length : Int)) = (((ls.take (i + 1)).flatten.length : Nat) : Int) := by
      rw [w64 (by omega) (by omega), take_flatS hx, List.length_append]; simp
    have e3 : decide ((((ls.take (i + 1)).flatten.length : Nat) : Int) < 0) = false := by simp
    repeat' (first | refine W.seq fun K hK => ?_ | refine W.block ?_ | ((first | refine wR ?_ | refine wD ?_ | refine W.skip ?_ | refine W.exit ?_ | refine W.ret (Post.ret ?_) | refine aP ?_ | refine aF ?_); simp only [go_sem, reduceCtorEq, List.getElem?_map, hx, e1, hw, e2, e3, List.length_map]) | refine wT ?_ | refine wF ?_ | refine wC (fun h => ?_) (fun h => ?_) | refine iK ?_ | refine aI2 ?_ | (refine hK _ ?_; clear hK K) | clear hK K)
    refine hKL.to (i + 1) (by omega) (by omega) (Fits.fit [] [0, 3, 9, 10, 11] 0 rfl rfl ?_)
    simp only [go_sem]
    exact Fits.rfl
  · obtain rfl : i = ls.length := by omega
    have e1 : decide ((ls.length : Int) < ls.length) = false := by simp
    clear hKL
    repeat' (first | refine W.seq fun K hK => ?_ | refine W.block ?_ | ((first | refine wR ?_ | refine wD ?_ | refine W.skip ?_ | refine W.exit ?_ | refine W.ret (Post.ret ?_) | refine aP ?_ | refine aF ?_); simp only [go_sem, reduceCtorEq, e1, List.take_length]) | refine wT ?_ | refine wF ?_ | refine wC (fun h => ?_) (fun h => ?_) | refine iK ?_ | refine aI2 ?_ | (refine hK _ ?_; clear hK K) | clear hK K)
    refine AX.gcall [] rfl rfl (hg) (by simp only [go_sem, reduceCtorEq]) (by simp only [go_sem, reduceCtorEq]) rfl rfl (by simp only [go_sem, Obj.owns]) rfl (by simp only [go_sem, Obj.owns]) rfl rfl ?_
    simp only [go_sem, reduceCtorEq]
    repeat' (first | refine W.seq fun K hK => ?_ | refine W.block ?_ | ((first | refine wR ?_ | refine wD ?_ | refine W.skip ?_ | refine W.exit ?_ | refine W.ret (Post.ret ?_) | refine aP ?_ | refine aF ?_); simp only [go_sem, reduceCtorEq, List.length_map]) | refine wT ?_ | refine wF ?_ | refine wC (fun h => ?_) (fun h => ?_) | refine iK ?_ | refine aI2 ?_ | (refine hK _ ?_; clear hK K) | clear hK K)
    refine W.loopF (T := fun i : Nat => { t := [(6, .c (.ref 0)), (25, listsST ls), (26, ft (.int .i64 ls.length)), (27, ft (.int .i64 (i : Nat)))], h := [(0, .row 88 (imR ((ls.take i).flatten.map spA)))], nx := 1, ex := [], nt := 36 })
      (Inv := fun i => i ≤ ls.length) (μ := fun i => ls.length - i) (x0 := 0) ?_ (Nat.zero_le _) ?_
    · refine Fits.fit [(2, 0)] [6, 25, 26, 27] 1 rfl rfl ?_
      simp only [go_sem, List.take_zero, List.flatten_nil, List.map_nil, imR_nil]
      exact Fits.rfl
    rintro i hi KL hKL
    by_cases hlt : i < ls.length
    · obtain ⟨l, hx, hm, hd⟩ := drop_at hlt
      have e1 : decide ((i : Int) < ls.length) = true := by simp; omega
      have hw := w64s i (by omega)
      have hfl := flat_leS (ls := ls) (i + 1)
      rw [take_flatS hx, List.length_append] at hfl
      repeat' (first | refine W.seq fun K hK => ?_ | refine W.block ?_ | ((first | refine wR ?_ | refine wD ?_ | refine W.skip ?_ | refine W.exit ?_ | refine W.ret (Post.ret ?_) | refine aP ?_ | refine aF ?_); simp only [go_sem, reduceCtorEq, List.getElem?_map, hx, e1, hw, List.length_map, imR_len]) | refine wT ?_ | refine wF ?_ | refine wC (fun h => ?_) (fun h => ?_) | refine iK ?_ | refine aI2 ?_ | (refine hK _ ?_; clear hK K) | clear hK K)
      refine hKL.to (i + 1) (by omega) (by omega) (Fits.fit [(7, 0)] [6, 25, 26, 27] 1 rfl rfl ?_)
      simp only [go_sem, take_flatS hx, List.map_append, imR_appS]
      exact Fits.rfl
    · obtain rfl : i = ls.length := by omega
      have e1 : decide ((ls.length : Int) < ls.length) = false := by simp
      clear hKL
      repeat' (first | refine W.seq fun K hK => ?_ | refine W.block ?_ | ((first | refine wR ?_ | refine wD ?_ | refine W.skip ?_ | refine W.exit ?_ | refine W.ret (Post.ret ?_) | refine aP ?_ | refine aF ?_); simp only [go_sem, reduceCtorEq, e1, List.take_length, unim_im]) | refine wT ?_ | refine wF ?_ | refine wC (fun h => ?_) (fun h => ?_) | refine iK ?_ | refine aI2 ?_ | (refine hK _ ?_; clear hK K) | clear hK K)

theorem union_c (c144 : SortC Tryz.prog 144 14) (g122 : GrowC Tryz.prog 122 88 14 168) (a b : List Spn) (hb : (a ++ b).length * 168 ≤ 140737488355328) : PCall Tryz.prog 67 [spsT a, spsT b] (spsT (setS (a ++ b))) := by
  have c1 := concatS_c g122 [a, b] (by simpa using hb)
  have c2 := set65_c c144 (a ++ b)
  simp only [List.map_cons, List.map_nil, List.flatten_cons, List.flatten_nil, List.append_nil] at c1
  clear c144 g122
  refine PCall.intro (nt := 10) (rs := [.tmp 4]) Tryz.func67 rfl ⟨by kernel_rfl, by kernel_rfl, by kernel_rfl⟩ (by simp) ?_
  rintro ⟨P, w0, ok0, may, np, pblk⟩ rfl rfl
  repeat' (first | refine W.seq fun K hK => ?_ | refine W.block ?_ | ((first | refine wR ?_ | refine wD ?_ | refine W.skip ?_ | refine W.exit ?_ | refine W.ret (Post.ret ?_) | refine aP ?_ | refine aF ?_); simp only [go_sem, reduceCtorEq]) | refine wT ?_ | refine wF ?_ | refine wC (fun h => ?_) (fun h => ?_) | refine iK ?_ | refine aI2 ?_ | (refine hK _ ?_; clear hK K) | clear hK K)
def eqSs (xs ys : List Spn) : Bool := xs.length == ys.length && ((xs.zip ys).all fun z => z.1.cmp z.2 == 0)
theorem equalF_c (xs ys : List Spn) : PCall Tryz.prog 68 [spsT xs, spsT ys, ft (.func (.func 70) #[] #[])] (ft (.bool (eqSs xs ys))) := by
  have ce := equal_c
  refine PCall.intro (nt := 32) (rs := [.tmp 6]) Tryz.func68 rfl ⟨by kernel_rfl, by kernel_rfl, by kernel_rfl⟩ (by simp) ?_
  rintro ⟨P, w0, ok0, may, np, pblk⟩ rfl rfl
  refine W.lenB 0 rfl tE88 fun hl _ => ?_
  rw [List.length_map, maxLen_is] at hl
  by_cases hne : xs.length = ys.length
  · have e0 : ((xs.length : Int) != (ys.length : Int)) = false := by simp [hne]
    repeat' (first | refine W.seq fun K hK => ?_ | refine W.block ?_ | ((first | refine wR ?_ | refine wD ?_ | refine W.skip ?_ | refine W.exit ?_ | refine W.ret (Post.ret ?_) | refine aP ?_ | refine aF ?_); simp only [go_sem, reduceCtorEq, e0, List.length_map]) | refine wT ?_ | refine wF ?_ | refine wC (fun h => ?_) (fun h => ?_) | refine iK ?_ | refine aI2 ?_ | (refine hK _ ?_; clear hK K) | clear hK K)
    refine W.loopF (T := fun i : Nat => { t := [(1, spsT ys), (2, ft (.func (.func 70) #[] #[])), (15, spsT xs), (16, ft (.int .i64 xs.length)), (17, ft (.int .i64 (i : Nat)))], h := [], nx := 0, ex := [], nt := 32 })
      (Inv := fun i => i ≤ xs.length ∧ eqSs xs ys = eqSs (xs.drop i) (ys.drop i)) (μ := fun i => xs.length - i) (x0 := 0) (Fits.fit [] [1, 2, 15, 16, 17] 0 rfl rfl ?_) ⟨Nat.zero_le _, rfl⟩ ?_
    · simp only [go_sem]
      exact Fits.rfl
    rintro i ⟨hi, hinv⟩ KL hKL
    by_cases hlt : i < xs.length
    · obtain ⟨x, hx, hm, hd⟩ := drop_at hlt
      obtain ⟨y, hy, hm', hd'⟩ := drop_at (show i < ys.length by omega)
      have e1 : decide ((i : Int) < xs.length) = true := by simp; omega
      have hw := w64s i (by omega)
      have hc := ce x y
      have hst : eqSs xs ys = ((x.cmp y == 0) && eqSs (xs.drop (i + 1)) (ys.drop (i + 1))) := by
        rw [hinv, hd, hd']
        have e : (((x :: xs.drop (i + 1)).length == (y :: ys.drop (i + 1)).length) : Bool) = ((xs.drop (i + 1)).length == (ys.drop (i + 1)).length) := by simp
        unfold eqSs
        rw [e, List.zip_cons_cons, List.all_cons]
        generalize ((xs.drop (i + 1)).length == (ys.drop (i + 1)).length) = p
        generalize (((xs.drop (i + 1)).zip (ys.drop (i + 1))).all fun z => z.1.cmp z.2 == 0) = q
        cases p <;> cases q <;> cases (x.cmp y == 0) <;> rfl
      simp only [spT, spA, List.map] at hc
      clear ce
      cases hq : (x.cmp y == 0) with
      | true =>
        rw [hq] at hc hst
        repeat' (first | refine W.seq fun K hK => ?_ | refine W.block ?_ | ((first | refine wR ?_ | refine wD ?_ | refine W.skip ?_ | refine W.exit ?_ | refine W.ret (Post.ret ?_) | refine aP ?_ | refine aF ?_); simp only [go_sem, reduceCtorEq, List.getElem?_map, hx, hy, spA, e1, hw, List.length_map]) | refine wT ?_ | refine wF ?_ | refine wC (fun h => ?_) (fun h => ?_) | refine iK ?_ | refine aI2 ?_ | (refine hK _ ?_; clear hK K) | clear hK K)
        refine hKL.to (i + 1) ⟨by omega, by rw [hst]; rfl⟩ (by omega) (Fits.fit [] [1, 2, 15, 16, 17] 0 rfl rfl ?_)
        simp only [go_sem]
        exact Fits.rfl
      | false =>
        rw [hq] at hc hst
        repeat' (first | refine W.seq fun K hK => ?_ | refine W.block ?_ | ((first | refine wR ?_ | refine wD ?_ | refine W.skip ?_ | refine W.exit ?_ | refine W.ret (Post.ret ?_) | refine aP ?_ | refine aF ?_); simp only [go_sem, reduceCtorEq, List.getElem?_map, hx, hy, spA, e1, hw, List.length_map]) | refine wT ?_ | refine wF ?_ | refine wC (fun h => ?_) (fun h => ?_) | refine iK ?_ | refine aI2 ?_ | (refine hK _ ?_; clear hK K) | clear hK K)
        rw [hst]; rfl
    · obtain rfl : i = xs.length := by omega
      have e1 : decide ((xs.length : Int) < xs.length) = false := by simp
      have h2 : eqSs xs ys = true := by rw [hinv, List.drop_of_length_le (Nat.le_refl _), hne, List.drop_of_length_le (Nat.le_refl _)]; rfl
      clear hKL
      repeat' (first | refine W.seq fun K hK => ?_ | refine W.block ?_ | ((first | refine wR ?_ | refine wD ?_ | refine W.skip ?_ | refine W.exit ?_ | refine W.ret (Post.ret ?_) | refine aP ?_ | refine aF ?_); simp only [go_sem, reduceCtorEq, e1]) | refine wT ?_ | refine wF ?_ | refine wC (fun h => ?_) (fun h => ?_) | refine iK ?_ | refine aI2 ?_ | (refine hK _ ?_; clear hK K) | clear hK K)
      rw [h2]
  · have e0 : ((xs.length : Int) != (ys.length : Int)) = true := by simp; omega
    have h2 : eqSs xs ys = false := by simp [eqSs, hne]
    clear ce
    repeat' (first | refine W.seq fun K hK => ?_ | refine W.block ?_ | ((first | refine wR ?_ | refine wD ?_ | refine W.skip ?_ | refine W.exit ?_ | refine W.ret (Post.ret ?_) | refine aP ?_ | refine aF ?_); simp only [go_sem, reduceCtorEq, e0, List.length_map]) | refine wT ?_ | refine wF ?_ | refine wC (fun h => ?_) (fun h => ?_) | refine iK ?_ | refine aI2 ?_ | (refine hK _ ?_; clear hK K) | clear hK K)
    rw [h2]
/-! ### the traces of the records, in order -/
def rcEA (m : RM) : List (Value × Bool × List AV) := m.map fun y => (.int .i64 y.1, false, [.sl 88 (y.2.map spA)])
theorem keysR1_it (m : RM) (ks : List Int) (hks : ks = m.map (·.1)) : ItC Tryz.prog 103 [.c (.im (.pt [.mp 3 (rcEA m)]))] (fun k => ft (.int .i64 k)) (fun ys => ys.Perm ks) ks.length := by
  intro l J hJ hY
  refine GCall.introG (nt := 14) (rs := []) Tryz.func103 rfl ⟨by kernel_rfl, by kernel_rfl, by kernel_rfl⟩ (by simp) ?_
  rintro ⟨P, w0, ok0, may, np, pblk⟩ rfl rfl
  simp only [go_sem]
  repeat' (first | refine W.seq fun K hK => ?_ | refine W.block ?_ | ((first | refine wR ?_ | refine wD ?_ | refine W.skip ?_ | refine W.exit ?_ | refine W.ret (Post.ret ?_) | refine aP ?_ | refine aF ?_ | refine aY (k0 := 0) ?_ | refine aL ?_ | refine aU ?_ | refine aM ?_ | refine aN ?_ | refine aR ?_ | refine aK ?_ | refine aZ ?_); simp only [go_sem, reduceCtorEq]) | refine wT ?_ | refine wF ?_ | refine wC (fun h => ?_) (fun h => ?_) | refine iK ?_ | refine aI2 ?_ | (refine hK _ ?_; clear hK K) | clear hK K)
  have hlen : (rcEA m).length = ks.length := by simp [rcEA, hks]
  refine W.loopF (T := fun seen : List Nat => { t := [(0, ft (.func (.yield l) #[] #[])), (5, .c (.ptr 1 0))], h := [(0, .raw (J (selK ks seen))), (1, .itf 3 (rcEA m) seen)], nx := 2, ex := [], nt := 14 })
    (Inv := fun seen => seen.Nodup ∧ ∀ j ∈ seen, j < ks.length) (μ := fun seen => ks.length - seen.length) (x0 := []) (Fits.fit [(0, 0), (2, 1)] [0, 5] 2 rfl rfl ?_) ⟨List.nodup_nil, by simp⟩ ?_
  · simp only [go_sem, selK, List.map_nil]
    exact Fits.rfl
  rintro seen ⟨hnd, hbd⟩ KL hKL
  repeat' (first | refine W.stop (id := 1) ?_ | refine W.seq fun K hK => ?_ | refine W.block ?_ | ((first | refine wR ?_ | refine wD ?_ | refine W.skip ?_ | refine W.exit ?_ | refine W.ret (Post.ret ?_) | refine aP ?_ | refine aF ?_ | refine aY (k0 := 0) ?_ | refine aL ?_ | refine aU ?_ | refine aM ?_ | refine aN ?_ | refine aR ?_ | refine aK ?_ | refine aZ ?_); simp only [go_sem, reduceCtorEq]) | refine wT ?_ | refine wF ?_ | refine wC (fun h => ?_) (fun h => ?_) | refine iK ?_ | refine aI2 ?_ | (refine hK _ ?_; clear hK K) | clear hK K)
  refine Stop.out ?_
  refine W.nextReg rfl rfl rfl rfl rfl rfl rfl rfl rfl rfl (fun j e he hj => ?_) (fun hall => ?_)
  · simp only [rcEA, List.getElem?_map, Option.map_eq_some_iff] at he
    obtain ⟨⟨k, n⟩, hkn, rfl⟩ := he
    have hk : ks[j]? = some k := by rw [hks, List.getElem?_map, hkn]; rfl
    have hjl := (List.getElem?_eq_some_iff.1 hk).1
    have hn2 : (seen ++ [j]).Nodup := List.nodup_append.2 ⟨hnd, by simp, fun x hx y hy => by simp at hy; subst hy; exact fun e => hj (e ▸ hx)⟩
    have hb2 : ∀ i ∈ seen ++ [j], i < ks.length := fun i hi => by
      rcases List.mem_append.1 hi with h | h
      · exact hbd i h
      · simp at h; omega
    have hsl := seen_le hn2 hb2
    have hsa : (seen ++ [j]).length = seen.length + 1 := by simp
    have hed : (rcEA m)[j]? = some (.int .i64 k, false, [.sl 88 (n.map spA)]) := by simp [rcEA, hkn]
    have hs2 : selK ks seen ++ [k] = selK ks (seen ++ [j]) := by simp [selK, List.getD_eq_getElem?_getD, hk]
    have hy := hY (selK ks seen) k (by simp [selK]; omega)
    rw [hs2] at hy
    simp only [go_sem]
    repeat' (first | refine W.seq fun K hK => ?_ | refine W.block ?_ | ((first | refine wR ?_ | refine wD ?_ | refine W.skip ?_ | refine W.exit ?_ | refine W.ret (Post.ret ?_) | refine aP ?_ | refine aF ?_ | refine aY (k0 := 0) ?_ | refine aL ?_ | refine aU ?_ | refine aM ?_ | refine aN ?_ | refine aR ?_ | refine aK ?_ | refine aZ ?_); simp only [go_sem, reduceCtorEq]) | refine wT ?_ | refine wF ?_ | refine wC (fun h => ?_) (fun h => ?_) | refine iK ?_ | refine aI2 ?_ | (refine hK _ ?_; clear hK K) | clear hK K)
    refine AX.entry rfl rfl rfl (j := j) (by simp) hed rfl rfl ?_
    simp only [go_sem, imL]
    repeat' (first | refine W.seq fun K hK => ?_ | refine W.block ?_ | ((first | refine wR ?_ | refine wD ?_ | refine W.skip ?_ | refine W.exit ?_ | refine W.ret (Post.ret ?_) | refine aP ?_ | refine aF ?_ | refine aY (k0 := 0) ?_ | refine aL ?_ | refine aU ?_ | refine aM ?_ | refine aN ?_ | refine aR ?_ | refine aK ?_ | refine aZ ?_); simp only [go_sem, reduceCtorEq]) | refine wT ?_ | refine wF ?_ | refine wC (fun h => ?_) (fun h => ?_) | refine iK ?_ | refine aI2 ?_ | (refine hK _ ?_; clear hK K) | clear hK K)
    refine hKL.to (seen ++ [j]) ⟨hn2, hb2⟩ (by omega) (Fits.fit [(0, 0), (1, 1)] [0, 5] 2 rfl rfl ?_)
    simp only [go_sem]
    exact Fits.rfl
  · simp only [go_sem]
    clear hKL
    have hall : ∀ j, j < ks.length → j ∈ seen := fun j hj => hall j (by rw [hlen]; exact hj)
    have hp := selK_perm hnd hbd hall
    repeat' (first | refine W.seq fun K hK => ?_ | refine W.block ?_ | ((first | refine wR ?_ | refine wD ?_ | refine W.skip ?_ | refine W.exit ?_ | refine W.ret (Post.ret ?_) | refine aP ?_ | refine aF ?_ | refine aY (k0 := 0) ?_ | refine aL ?_ | refine aU ?_ | refine aM ?_ | refine aN ?_ | refine aR ?_ | refine aK ?_ | refine aZ ?_); simp only [go_sem, reduceCtorEq]) | refine wT ?_ | refine wF ?_ | refine wC (fun h => ?_) (fun h => ?_) | refine iK ?_ | refine aI2 ?_ | (refine hK _ ?_; clear hK K) | clear hK K)
    refine PostG.normal (Fits.weak 0 (o1 := .raw fun ok B w => ∃ ys, ys.Perm ks ∧ J ys ok B w) rfl rfl (fun ok w L h => ?_) (Fits.fit [(0, 0)] [] 1 rfl rfl Fits.rfl)) rfl rfl ?_
    · obtain ⟨h1, h2, _⟩ := h
      exact ⟨h1, ⟨_, hp, h2⟩, fun ok ok' B w w' ⟨ys, e, hj⟩ k1 k2 => ⟨ys, e, hJ _ ok ok' B w w' hj k1 k2⟩⟩
    · simp only [St.r, go_sem]
theorem keysR_c (m : RM) : PCall Tryz.prog 66 [.c (.im (.mp 3 (rcEA m)))] (.c (.im (.fn 103 [.pt [.mp 3 (rcEA m)]]))) := by
  refine PCall.intro (nt := 4) (rs := [.tmp 2]) Tryz.func66 rfl ⟨by kernel_rfl, by kernel_rfl, by kernel_rfl⟩ (by simp) ?_
  rintro ⟨P, w0, ok0, may, np, pblk⟩ rfl rfl
  repeat' (first | refine W.seq fun K hK => ?_ | refine W.block ?_ | ((first | refine wR ?_ | refine wD ?_ | refine W.skip ?_ | refine W.exit ?_ | refine W.ret (Post.ret ?_) | refine aP ?_ | refine aF ?_ | refine aY (k0 := 0) ?_ | refine aL ?_ | refine aU ?_ | refine aM ?_ | refine aN ?_ | refine aR ?_ | refine aK ?_ | refine aZ ?_); simp only [go_sem, reduceCtorEq]) | refine wT ?_ | refine wF ?_ | refine wC (fun h => ?_) (fun h => ?_) | refine iK ?_ | refine aI2 ?_ | (refine hK _ ?_; clear hK K) | clear hK K)
theorem sortedR_c (c60 : SortI Tryz.prog 85) (m : RM) (ks : List Int) (hks : ks = m.map (·.1)) (hlen : ks.length * 8 ≤ 140737488355328) :
    GCall Tryz.prog 52 0 (St.g [.c (.im (.fn 103 [.pt [.mp 3 (rcEA m)]]))] [] 0) (St.r (.c (.ref 0)) [(0, .row 3 (imR ((srtI ks).map iA)))] 1) := by
  have hc := collectI_c 103 [.pt [.mp 3 (rcEA m)]] _ _ (keysR1_it m ks hks) hlen
  refine GCall.introG (nt := 9) (rs := [.tmp 2]) Tryz.func52 rfl ⟨by kernel_rfl, by kernel_rfl, by kernel_rfl⟩ (by simp) ?_
  rintro ⟨P, w0, ok0, may, np, pblk⟩ rfl rfl
  simp only [go_sem]
  repeat' (first | refine W.stop (id := 1) ?_ | refine W.seq fun K hK => ?_ | refine W.block ?_ | ((first | refine wR ?_ | refine wD ?_ | refine W.skip ?_ | refine W.exit ?_ | refine W.ret (Post.ret ?_) | refine aP ?_ | refine aF ?_ | refine aY (k0 := 0) ?_ | refine aL ?_ | refine aU ?_ | refine aM ?_ | refine aN ?_ | refine aR ?_ | refine aK ?_ | refine aZ ?_); simp only [go_sem, reduceCtorEq]) | refine wT ?_ | refine wF ?_ | refine wC (fun h => ?_) (fun h => ?_) | refine iK ?_ | refine aI2 ?_ | (refine hK _ ?_; clear hK K) | clear hK K)
  refine Stop.out ?_
  refine W.regE ?_
  refine ⟨rfl, OpE.ofAOp 9 (by simp [St.used]) ?_⟩
  simp only [go_sem]
  refine ⟨rfl, OpE.gcall 9 [] rfl rfl hc rfl rfl rfl rfl rfl rfl (fun _ _ => rfl) rfl rfl (by simp [St.used]) fun ys hys => ?_⟩
  simp only [go_sem]
  refine ⟨rfl, OpE.ofAOp 10 (by simp [St.used]) ?_⟩
  simp only [go_sem]
  refine ⟨_, Fits.fit [(9, 0)] [3] 1 rfl rfl Fits.rfl, ?_⟩
  simp only [go_sem]
  repeat' (first | refine W.seq fun K hK => ?_ | refine W.block ?_ | ((first | refine wR ?_ | refine wD ?_ | refine W.skip ?_ | refine W.exit ?_ | refine W.ret (Post.ret ?_) | refine aP ?_ | refine aF ?_ | refine aY (k0 := 0) ?_ | refine aL ?_ | refine aU ?_ | refine aM ?_ | refine aN ?_ | refine aR ?_ | refine aK ?_ | refine aZ ?_); simp only [go_sem, reduceCtorEq]) | refine wT ?_ | refine wF ?_ | refine wC (fun h => ?_) (fun h => ?_) | refine iK ?_ | refine aI2 ?_ | (refine hK _ ?_; clear hK K) | clear hK K)
  refine AX.sortI (zs := ys) rfl rfl rfl rfl rfl tE3 (by decide) c60 rfl ?_
  rw [srtI_uni hys]
  simp only [go_sem]
  repeat' (first | refine W.seq fun K hK => ?_ | refine W.block ?_ | ((first | refine wR ?_ | refine wD ?_ | refine W.skip ?_ | refine W.exit ?_ | refine W.ret (Post.ret ?_) | refine aP ?_ | refine aF ?_ | refine aY (k0 := 0) ?_ | refine aL ?_ | refine aU ?_ | refine aM ?_ | refine aN ?_ | refine aR ?_ | refine aK ?_ | refine aZ ?_); simp only [go_sem, reduceCtorEq]) | refine wT ?_ | refine wF ?_ | refine wC (fun h => ?_) (fun h => ?_) | refine iK ?_ | refine aI2 ?_ | (refine hK _ ?_; clear hK K) | clear hK K)
  refine W.ret (PostG.ret (Fits.fit [(0, 0)] [2] 1 rfl rfl Fits.rfl) rfl rfl ?_)
  simp only [St.r, go_sem]
  rfl
end Go.Proofs.YtigenjeealkdlaaGreat
namespace Go.Proofs.YtigenjeealkdlaaGreat
open Go.RowKit Go.Exe
/-! ### span.Check -/
def badId (n : Int) : Bool := decide (n < 1) || decide (n > 1099511627776)
theorem BA_loop (b : ByteArray) : ∀ (k i : Nat) (r : List UInt8), b.size - i = k → ByteArray.toList.loop b i r = r.reverse ++ b.data.toList.drop i
  | k, i, r, hk => by
    unfold ByteArray.toList.loop
    have hsz : b.data.toList.length = b.size := by simp
    by_cases h : i < b.size
    · rw [if_pos h, BA_loop b (k - 1) (i + 1) _ (by omega)]
      have h2 : i < b.data.toList.length := by omega
      rw [List.drop_eq_getElem_cons h2]
      simp [ByteArray.get!, getElem!_pos b.data i (by simpa using h)]
    · rw [if_neg h, List.drop_of_length_le (by omega)]
      simp
  termination_by k => k
  decreasing_by omega
theorem BA_toList (b : ByteArray) : b.toList = b.data.toList := by
  unfold ByteArray.toList
  rw [BA_loop b _ 0 [] rfl]; simp
theorem BA_len (b : ByteArray) : b.toList.length = b.size := by rw [BA_toList]; simp
def witB (b : ByteArray) (lo hi : Nat) : Bool := b.toList.all fun x => !(decide (x.toNat < lo) || decide (x.toNat > hi))
def emB (b : ByteArray) : Bool := b.toList == ByteArray.empty.toList
def isName (b : ByteArray) : Bool := !emB b && decide ((b.size : Int) ≤ 64) && witB b 33 126
attribute [local irreducible] W AX Run RunD AStep AOp AOpX AStB AStH AStG Fits PCall GCall PostG Post Stop
theorem badId_c (n : Int) : PCall Tryz.prog 95 [ft (.int .i64 n)] (ft (.bool (badId n))) := by
  unfold badId
  cases h1 : decide (n < 1) <;> cases h2 : decide (n > 1099511627776)
  all_goals
    refine PCall.intro (nt := 9) (rs := [.tmp 2]) Tryz.func95 rfl ⟨by kernel_rfl, by kernel_rfl, by kernel_rfl⟩ (by simp) ?_
    rintro ⟨P, w0, ok0, may, np, pblk⟩ rfl rfl
    repeat' (first | refine W.seq fun K hK => ?_ | refine W.block ?_ | ((first | refine wR ?_ | refine wD ?_ | refine W.skip ?_ | refine W.exit ?_ | refine W.ret (Post.ret ?_) | refine aP ?_ | refine aF ?_); simp only [go_sem, reduceCtorEq, h1, h2]) | refine wT ?_ | refine wF ?_ | refine wC (fun h => ?_) (fun h => ?_) | refine iK ?_ | refine aI2 ?_ | (refine hK _ ?_; clear hK K) | clear hK K)
theorem within_c (b : ByteArray) (hsz : b.size ≤ 140737488355328) (lo hi : Nat) : PCall Tryz.prog 115 [ft (.string b), ft (.int .u8 (lo : Nat)), ft (.int .u8 (hi : Nat))] (ft (.bool (witB b lo hi))) := by
  have hbl := BA_len b
  refine PCall.intro (nt := 26) (rs := [.tmp 6]) Tryz.func115 rfl ⟨by kernel_rfl, by kernel_rfl, by kernel_rfl⟩ (by simp) ?_
  rintro ⟨P, w0, ok0, may, np, pblk⟩ rfl rfl
  repeat' (first | refine W.seq fun K hK => ?_ | refine W.block ?_ | ((first | refine wR ?_ | refine wD ?_ | refine W.skip ?_ | refine W.exit ?_ | refine W.ret (Post.ret ?_) | refine aP ?_ | refine aF ?_); simp only [go_sem, reduceCtorEq]) | refine wT ?_ | refine wF ?_ | refine wC (fun h => ?_) (fun h => ?_) | refine iK ?_ | refine aI2 ?_ | (refine hK _ ?_; clear hK K) | clear hK K)
  refine W.loopF (T := fun i : Nat => { t := [(0, ft (.string b)), (1, ft (.int .u8 (lo : Nat))), (2, ft (.int .u8 (hi : Nat))), (9, ft (.int .i64 b.size)), (10, ft (.int .i64 (i : Nat)))], h := [], nx := 0, ex := [], nt := 26 })
    (Inv := fun i => i ≤ b.size ∧ witB b lo hi = (b.toList.drop i).all fun x => !(decide (x.toNat < lo) || decide (x.toNat > hi))) (μ := fun i => b.size - i) (x0 := 0) (Fits.fit [] [0, 1, 2, 9, 10] 0 rfl rfl ?_) ⟨Nat.zero_le _, rfl⟩ ?_
  · simp only [go_sem]
    exact Fits.rfl
  rintro i ⟨hi1, hinv⟩ KL hKL
  by_cases hlt : i < b.size
  · obtain ⟨x, hx, hm, hd⟩ := drop_at (show i < b.toList.length by omega)
    have e1 : decide ((i : Int) < b.size) = true := by simp; omega
    have e2 : decide (i < b.size) = true := by simp; omega
    have hw := w64s i (by omega)
    have hg : b.toList.getD i 0 = x := by rw [List.getD_eq_getElem?_getD, hx]; rfl
    rw [hd, List.all_cons] at hinv
    cases f1 : decide (x.toNat < lo) with
    | true =>
      have f1' : decide ((x.toNat : Int) < lo) = true := by simpa using f1
      rw [f1] at hinv
      repeat' (first | refine W.seq fun K hK => ?_ | refine W.block ?_ | ((first | refine wR ?_ | refine wD ?_ | refine W.skip ?_ | refine W.exit ?_ | refine W.ret (Post.ret ?_) | refine aP ?_ | refine aF ?_); simp only [go_sem, reduceCtorEq, e1, e2, hg, f1', Int.toNat_natCast]) | refine wT ?_ | refine wF ?_ | refine wC (fun h => ?_) (fun h => ?_) | refine iK ?_ | refine aI2 ?_ | (refine hK _ ?_; clear hK K) | clear hK K)
      rw [hinv]; rfl
    | false =>
      have f1' : decide ((x.toNat : Int) < lo) = false := by simpa using f1
      rw [f1] at hinv
      cases f2 : decide (x.toNat > hi) with
      | true =>
        have f2' : decide ((x.toNat : Int) > hi) = true := by simpa using f2
        rw [f2] at hinv
        repeat' (first | refine W.seq fun K hK => ?_ | refine W.block ?_ | ((first | refine wR ?_ | refine wD ?_ | refine W.skip ?_ | refine W.exit ?_ | refine W.ret (Post.ret ?_) | refine aP ?_ | refine aF ?_); simp only [go_sem, reduceCtorEq, e1, e2, hg, f1', f2', Int.toNat_natCast]) | refine wT ?_ | refine wF ?_ | refine wC (fun h => ?_) (fun h => ?_) | refine iK ?_ | refine aI2 ?_ | (refine hK _ ?_; clear hK K) | clear hK K)
        rw [hinv]; rfl
      | false =>
        have f2' : decide ((x.toNat : Int) > hi) = false := by simpa using f2
        rw [f2] at hinv
        repeat' (first | refine W.seq fun K hK => ?_ | refine W.block ?_ | ((first | refine wR ?_ | refine wD ?_ | refine W.skip ?_ | refine W.exit ?_ | refine W.ret (Post.ret ?_) | refine aP ?_ | refine aF ?_); simp only [go_sem, reduceCtorEq, e1, e2, hg, f1', f2', hw, Int.toNat_natCast]) | refine wT ?_ | refine wF ?_ | refine wC (fun h => ?_) (fun h => ?_) | refine iK ?_ | refine aI2 ?_ | (refine hK _ ?_; clear hK K) | clear hK K)
        refine hKL.to (i + 1) ⟨by omega, by rw [hinv]; rfl⟩ (by omega) (Fits.fit [] [0, 1, 2, 9, 10] 0 rfl rfl ?_)
        simp only [go_sem]
        exact Fits.rfl
  · obtain rfl : i = b.size := by omega
    have e1 : decide ((b.size : Int) < b.size) = false := by simp
    have h2 : witB b lo hi = true := by rw [hinv, List.drop_of_length_le (by omega)]; rfl
    clear hKL
    repeat' (first | refine W.seq fun K hK => ?_ | refine W.block ?_ | ((first | refine wR ?_ | refine wD ?_ | refine W.skip ?_ | refine W.exit ?_ | refine W.ret (Post.ret ?_) | refine aP ?_ | refine aF ?_); simp only [go_sem, reduceCtorEq, e1]) | refine wT ?_ | refine wF ?_ | refine wC (fun h => ?_) (fun h => ?_) | refine iK ?_ | refine aI2 ?_ | (refine hK _ ?_; clear hK K) | clear hK K)
    rw [h2]
theorem isName_c (b : ByteArray) (hsz : b.size ≤ 140737488355328) : PCall Tryz.prog 96 [ft (.string b)] (ft (.bool (isName b))) := by
  have c1 : PCall Tryz.prog 115 [ft (.string b), ft (.int .u8 33), ft (.int .u8 126)] (ft (.bool (witB b 33 126))) := within_c b hsz 33 126
  unfold isName
  have he : (ByteArray.mk #[]) = ByteArray.empty := rfl
  unfold emB
  cases h1 : (b.toList == ByteArray.empty.toList) with
  | true =>
    refine PCall.intro (nt := 14) (rs := [.tmp 2]) Tryz.func96 rfl ⟨by kernel_rfl, by kernel_rfl, by kernel_rfl⟩ (by simp) ?_
    rintro ⟨P, w0, ok0, may, np, pblk⟩ rfl rfl
    repeat' (first | refine W.seq fun K hK => ?_ | refine W.block ?_ | ((first | refine wR ?_ | refine wD ?_ | refine W.skip ?_ | refine W.exit ?_ | refine W.ret (Post.ret ?_) | refine aP ?_ | refine aF ?_); simp only [go_sem, reduceCtorEq, he, h1]) | refine wT ?_ | refine wF ?_ | refine wC (fun h => ?_) (fun h => ?_) | refine iK ?_ | refine aI2 ?_ | (refine hK _ ?_; clear hK K) | clear hK K)
  | false =>
    cases h2 : decide ((b.size : Int) ≤ 64) with
    | false =>
      refine PCall.intro (nt := 14) (rs := [.tmp 2]) Tryz.func96 rfl ⟨by kernel_rfl, by kernel_rfl, by kernel_rfl⟩ (by simp) ?_
      rintro ⟨P, w0, ok0, may, np, pblk⟩ rfl rfl
      repeat' (first | refine W.seq fun K hK => ?_ | refine W.block ?_ | ((first | refine wR ?_ | refine wD ?_ | refine W.skip ?_ | refine W.exit ?_ | refine W.ret (Post.ret ?_) | refine aP ?_ | refine aF ?_); simp only [go_sem, reduceCtorEq, he, h1, h2]) | refine wT ?_ | refine wF ?_ | refine wC (fun h => ?_) (fun h => ?_) | refine iK ?_ | refine aI2 ?_ | (refine hK _ ?_; clear hK K) | clear hK K)
    | true =>
      refine PCall.intro (nt := 14) (rs := [.tmp 2]) Tryz.func96 rfl ⟨by kernel_rfl, by kernel_rfl, by kernel_rfl⟩ (by simp) ?_
      rintro ⟨P, w0, ok0, may, np, pblk⟩ rfl rfl
      repeat' (first | refine W.seq fun K hK => ?_ | refine W.block ?_ | ((first | refine wR ?_ | refine wD ?_ | refine W.skip ?_ | refine W.exit ?_ | refine W.ret (Post.ret ?_) | refine aP ?_ | refine aF ?_); simp only [go_sem, reduceCtorEq, he, h1, h2]) | refine wT ?_ | refine wF ?_ | refine wC (fun h => ?_) (fun h => ?_) | refine iK ?_ | refine aI2 ?_ | (refine hK _ ?_; clear hK K) | clear hK K)
/-! ### values, attributes, links -/
def vOk (a : Att) : Bool := if a.kind == 1 then witB a.text 32 126 && a.num == 0 else if a.kind == 2 then (emB a.text && decide (a.num ≥ -1099511627776)) && decide (a.num ≤ 1099511627776) else emB a.text && (a.num == 0 || a.num == 1)
def valE (a : Att) : Int := if a.kind == 1 || a.kind == 2 || a.kind == 3 then (if decide ((a.text.size : Int) > 4096) then 5 else if vOk a then 0 else 3) else 12
theorem value_c (a : Att) (hsz : a.text.size ≤ 140737488355328) : PCall Tryz.prog 116 [.g [fl (.int .i64 a.kind), fl (.string a.text), fl (.int .i64 a.num)]] (ft (.int .i64 (valE a))) := by
  have c1 : PCall Tryz.prog 115 [ft (.string a.text), ft (.int .u8 32), ft (.int .u8 126)] (ft (.bool (witB a.text 32 126))) := within_c a.text hsz 32 126
  have he : (ByteArray.mk #[]) = ByteArray.empty := rfl
  unfold valE vOk emB
  cases h1 : (a.kind == 1) with
  | true =>
    cases h2 : witB a.text 32 126 <;> cases h3 : (a.num == 0) <;> cases h4 : decide ((a.text.size : Int) > 4096)
    all_goals
      rw [h2] at c1
      refine PCall.intro (nt := 54) (rs := [.tmp 2]) Tryz.func116 rfl ⟨by kernel_rfl, by kernel_rfl, by kernel_rfl⟩ (by simp) ?_
      rintro ⟨P, w0, ok0, may, np, pblk⟩ rfl rfl
      repeat' (first | refine W.seq fun K hK => ?_ | refine W.block ?_ | ((first | refine wR ?_ | refine wD ?_ | refine W.skip ?_ | refine W.exit ?_ | refine W.ret (Post.ret ?_) | refine aP ?_ | refine aF ?_); simp only [go_sem, reduceCtorEq, h1, h3, h4]) | refine wT ?_ | refine wF ?_ | refine wC (fun h => ?_) (fun h => ?_) | refine iK ?_ | refine aI2 ?_ | (refine hK _ ?_; clear hK K) | clear hK K)
  | false =>
    cases h2 : (a.kind == 2) with
    | true =>
      cases h3 : (a.text.toList == ByteArray.empty.toList) <;> cases h4 : decide (a.num ≥ -1099511627776) <;> cases h5 : decide (a.num ≤ 1099511627776) <;> cases h6 : decide ((a.text.size : Int) > 4096)
      all_goals
        refine PCall.intro (nt := 54) (rs := [.tmp 2]) Tryz.func116 rfl ⟨by kernel_rfl, by kernel_rfl, by kernel_rfl⟩ (by simp) ?_
        rintro ⟨P, w0, ok0, may, np, pblk⟩ rfl rfl
        repeat' (first | refine W.seq fun K hK => ?_ | refine W.block ?_ | ((first | refine wR ?_ | refine wD ?_ | refine W.skip ?_ | refine W.exit ?_ | refine W.ret (Post.ret ?_) | refine aP ?_ | refine aF ?_); simp only [go_sem, reduceCtorEq, he, h1, h2, h3, h4, h5, h6]) | refine wT ?_ | refine wF ?_ | refine wC (fun h => ?_) (fun h => ?_) | refine iK ?_ | refine aI2 ?_ | (refine hK _ ?_; clear hK K) | clear hK K)
    | false =>
      cases h3 : (a.kind == 3) with
      | true =>
        cases h4 : (a.text.toList == ByteArray.empty.toList) <;> cases h5 : (a.num == 0) <;> cases h6 : (a.num == 1) <;> cases h7 : decide ((a.text.size : Int) > 4096)
        all_goals
          refine PCall.intro (nt := 54) (rs := [.tmp 2]) Tryz.func116 rfl ⟨by kernel_rfl, by kernel_rfl, by kernel_rfl⟩ (by simp) ?_
          rintro ⟨P, w0, ok0, may, np, pblk⟩ rfl rfl
          repeat' (first | refine W.seq fun K hK => ?_ | refine W.block ?_ | ((first | refine wR ?_ | refine wD ?_ | refine W.skip ?_ | refine W.exit ?_ | refine W.ret (Post.ret ?_) | refine aP ?_ | refine aF ?_); simp only [go_sem, reduceCtorEq, he, h1, h2, h3, h4, h5, h6, h7]) | refine wT ?_ | refine wF ?_ | refine wC (fun h => ?_) (fun h => ?_) | refine iK ?_ | refine aI2 ?_ | (refine hK _ ?_; clear hK K) | clear hK K)
      | false =>
        refine PCall.intro (nt := 54) (rs := [.tmp 2]) Tryz.func116 rfl ⟨by kernel_rfl, by kernel_rfl, by kernel_rfl⟩ (by simp) ?_
        rintro ⟨P, w0, ok0, may, np, pblk⟩ rfl rfl
        repeat' (first | refine W.seq fun K hK => ?_ | refine W.block ?_ | ((first | refine wR ?_ | refine wD ?_ | refine W.skip ?_ | refine W.exit ?_ | refine W.ret (Post.ret ?_) | refine aP ?_ | refine aF ?_); simp only [go_sem, reduceCtorEq, he, h1, h2, h3]) | refine wT ?_ | refine wF ?_ | refine wC (fun h => ?_) (fun h => ?_) | refine iK ?_ | refine aI2 ?_ | (refine hK _ ?_; clear hK K) | clear hK K)
end Go.Proofs.YtigenjeealkdlaaGreat
namespace Go.Proofs.YtigenjeealkdlaaGreat
open Go.RowKit Go.Exe
/-! ### span.Check: attributes, links, the whole span -/
def leS (a b : ByteArray) : Bool := Op.bytesLess a.toList b.toList || a.toList == b.toList
def attE : List Att → Option ByteArray → Int
  | [], _ => 0
  | a :: r, p => if isName a.key then (if p.any (leS a.key) then 8 else if valE a != 0 then valE a else attE r (some a.key)) else 11
def attsE (l : List Att) : Int := if decide ((l.length : Int) > 32) then 6 else attE l none
def prevA (l : List Att) (i : Nat) : Option ByteArray := match i with
  | 0 => none
  | k + 1 => (l[k]?).map (·.key)
def AttOk (a : Att) : Prop := a.key.size ≤ 140737488355328 ∧ a.text.size ≤ 140737488355328
attribute [local irreducible] W AX Run RunD AStep AOp AOpX AStB AStH AStG Fits PCall GCall PostG Post Stop
theorem attrs_c (l : List Att) (hsz : ∀ a ∈ l, AttOk a) : PCall Tryz.prog 98 [.c (.im (.sl 134 (l.map attA)))] (ft (.int .i64 (attsE l))) := by
  unfold attsE
  refine PCall.intro (nt := 42) (rs := [.tmp 2]) Tryz.func98 rfl ⟨by kernel_rfl, by kernel_rfl, by kernel_rfl⟩ (by simp) ?_
  rintro ⟨P, w0, ok0, may, np, pblk⟩ rfl rfl
  refine W.lenB 0 rfl tE134 fun hl _ => ?_
  rw [List.length_map, maxLen_is] at hl
  cases h0 : decide ((l.length : Int) > 32) with
  | true => 
    repeat' (first | refine W.seq fun K hK => ?_ | refine W.block ?_ | ((first | refine wR ?_ | refine wD ?_ | refine W.skip ?_ | refine W.exit ?_ | refine W.ret (Post.ret ?_) | refine aP ?_ | refine aF ?_); simp only [go_sem, reduceCtorEq, h0, List.length_map]) | refine wT ?_ | refine wF ?_ | refine wC (fun h => ?_) (fun h => ?_) | refine iK ?_ | refine aI2 ?_ | (refine hK _ ?_; clear hK K) | clear hK K)
  | false =>
    repeat' (first | refine W.seq fun K hK => ?_ | refine W.block ?_ | ((first | refine wR ?_ | refine wD ?_ | refine W.skip ?_ | refine W.exit ?_ | refine W.ret (Post.ret ?_) | refine aP ?_ | refine aF ?_); simp only [go_sem, reduceCtorEq, h0, List.length_map]) | refine wT ?_ | refine wF ?_ | refine wC (fun h => ?_) (fun h => ?_) | refine iK ?_ | refine aI2 ?_ | (refine hK _ ?_; clear hK K) | clear hK K)
    refine W.loopF (T := fun i : Nat => { t := [(0, .c (.im (.sl 134 (l.map attA)))), (9, .c (.im (.sl 134 (l.map attA)))), (10, ft (.int .i64 l.length)), (11, ft (.int .i64 (i : Nat)))], h := [], nx := 0, ex := [], nt := 42 })
      (Inv := fun i => i ≤ l.length ∧ attE l none = attE (l.drop i) (prevA l i)) (μ := fun i => l.length - i) (x0 := 0) (Fits.fit [] [0, 9, 10, 11] 0 rfl rfl ?_) ⟨Nat.zero_le _, rfl⟩ ?_
    · simp only [go_sem]
      exact Fits.rfl
    rintro i ⟨hi, hinv⟩ KL hKL
    by_cases hlt : i < l.length
    · obtain ⟨a, hx, hm, hd⟩ := drop_at hlt
      have e1 : decide ((i : Int) < l.length) = true := by simp; omega
      have hw := w64s i (by omega)
      obtain ⟨z1, z2⟩ := hsz a hm
      have cn := isName_c a.key z1
      have cv := value_c a z2
      rw [hd, attE] at hinv
      have hpn : prevA l (i + 1) = some a.key := by simp [prevA, hx]
      rw [← hpn] at hinv
      clear hsz
      cases h1 : isName a.key with
      | false =>
        rw [h1] at cn hinv
        repeat' (first | refine W.seq fun K hK => ?_ | refine W.block ?_ | ((first | refine wR ?_ | refine wD ?_ | refine W.skip ?_ | refine W.exit ?_ | refine W.ret (Post.ret ?_) | refine aP ?_ | refine aF ?_); simp only [go_sem, reduceCtorEq, List.getElem?_map, hx, attA, e1, List.length_map]) | refine wT ?_ | refine wF ?_ | refine wC (fun h => ?_) (fun h => ?_) | refine iK ?_ | refine aI2 ?_ | (refine hK _ ?_; clear hK K) | clear hK K)
        rw [hinv]; rfl
      | true =>
        rw [h1] at cn hinv
        have hend : valE a = 0 → (prevA l i).any (leS a.key) = false → attE l none = attE (l.drop (i + 1)) (prevA l (i + 1)) := fun h h2 => by rw [hinv, h2, h]; rfl
        have hbad : (valE a != 0) = true → (prevA l i).any (leS a.key) = false → attE l none = valE a := fun h h2 => by rw [hinv, h2, h]; rfl
        have h8 : (prevA l i).any (leS a.key) = true → attE l none = 8 := fun h2 => by rw [hinv, h2]; rfl
        clear hinv hpn
        rcases i with _ | i
        · have h2 : decide ((((0 : Nat) : Nat) : Int) > 0) = false := by decide
          have hp : (prevA l 0).any (leS a.key) = false := rfl
          cases h3 : (valE a != 0) with
          | true =>
            repeat' (first | refine W.seq fun K hK => ?_ | refine W.block ?_ | ((first | refine wR ?_ | refine wD ?_ | refine W.skip ?_ | refine W.exit ?_ | refine W.ret (Post.ret ?_) | refine aP ?_ | refine aF ?_); simp only [go_sem, reduceCtorEq, List.getElem?_map, hx, attA, e1, h2, h3, List.length_map]) | refine wT ?_ | refine wF ?_ | refine wC (fun h => ?_) (fun h => ?_) | refine iK ?_ | refine aI2 ?_ | (refine hK _ ?_; clear hK K) | clear hK K)
            rw [hbad h3 hp]
          | false =>
            have h4 := hend (by simpa using h3) hp
            repeat' (first | refine W.seq fun K hK => ?_ | refine W.block ?_ | ((first | refine wR ?_ | refine wD ?_ | refine W.skip ?_ | refine W.exit ?_ | refine W.ret (Post.ret ?_) | refine aP ?_ | refine aF ?_); simp only [go_sem, reduceCtorEq, List.getElem?_map, hx, attA, e1, h2, h3, hw, List.length_map]) | refine wT ?_ | refine wF ?_ | refine wC (fun h => ?_) (fun h => ?_) | refine iK ?_ | refine aI2 ?_ | (refine hK _ ?_; clear hK K) | clear hK K)
            refine hKL.to (0 + 1) ⟨by omega, h4⟩ (by omega) (Fits.fit [] [0, 9, 10, 11] 0 rfl rfl ?_)
            simp only [go_sem]
            exact Fits.rfl
        · obtain ⟨b, hy, hm', hd'⟩ := drop_at (show i < l.length by omega)
          have h2 : decide (((i + 1 : Nat) : Int) > 0) = true := by rw [decide_eq_true_eq]; omega
          have hw1 : IntKind.i64.wrap (((i + 1 : Nat) : Int) - 1) = ((i : Nat) : Int) := by rw [w64 (by omega) (by omega)]; omega
          have hp : (prevA l (i + 1)).any (leS a.key) = leS a.key b.key := by simp [prevA, hy]
          rw [hp] at hend hbad h8
          unfold leS at hend hbad h8
          cases h3 : (Op.bytesLess a.key.toList b.key.toList || a.key.toList == b.key.toList) with
          | true =>
            repeat' (first | refine W.seq fun K hK => ?_ | refine W.block ?_ | ((first | refine wR ?_ | refine wD ?_ | refine W.skip ?_ | refine W.exit ?_ | refine W.ret (Post.ret ?_) | refine aP ?_ | refine aF ?_); simp only [go_sem, reduceCtorEq, List.getElem?_map, hx, hy, attA, e1, h2, h3, hw1, List.length_map]) | refine wT ?_ | refine wF ?_ | refine wC (fun h => ?_) (fun h => ?_) | refine iK ?_ | refine aI2 ?_ | (refine hK _ ?_; clear hK K) | clear hK K)
            rw [h8 h3]
          | false =>
            cases h4 : (valE a != 0) with
            | true =>
              repeat' (first | refine W.seq fun K hK => ?_ | refine W.block ?_ | ((first | refine wR ?_ | refine wD ?_ | refine W.skip ?_ | refine W.exit ?_ | refine W.ret (Post.ret ?_) | refine aP ?_ | refine aF ?_); simp only [go_sem, reduceCtorEq, List.getElem?_map, hx, hy, attA, e1, h2, h3, h4, hw1, List.length_map]) | refine wT ?_ | refine wF ?_ | refine wC (fun h => ?_) (fun h => ?_) | refine iK ?_ | refine aI2 ?_ | (refine hK _ ?_; clear hK K) | clear hK K)
              rw [hbad h4 h3]
            | false =>
              have h5 := hend (by simpa using h4) h3
              repeat' (first | refine W.seq fun K hK => ?_ | refine W.block ?_ | ((first | refine wR ?_ | refine wD ?_ | refine W.skip ?_ | refine W.exit ?_ | refine W.ret (Post.ret ?_) | refine aP ?_ | refine aF ?_); simp only [go_sem, reduceCtorEq, List.getElem?_map, hx, hy, attA, e1, h2, h3, h4, hw, hw1, List.length_map]) | refine wT ?_ | refine wF ?_ | refine wC (fun h => ?_) (fun h => ?_) | refine iK ?_ | refine aI2 ?_ | (refine hK _ ?_; clear hK K) | clear hK K)
              refine hKL.to (i + 1 + 1) ⟨by omega, h5⟩ (by omega) (Fits.fit [] [0, 9, 10, 11] 0 rfl rfl ?_)
              simp only [go_sem]
              exact Fits.rfl
    · obtain rfl : i = l.length := by omega
      have e1 : decide ((l.length : Int) < l.length) = false := by simp
      have h2 : attE l none = 0 := by rw [hinv, List.drop_of_length_le (Nat.le_refl _)]; rfl
      clear hKL
      repeat' (first | refine W.seq fun K hK => ?_ | refine W.block ?_ | ((first | refine wR ?_ | refine wD ?_ | refine W.skip ?_ | refine W.exit ?_ | refine W.ret (Post.ret ?_) | refine aP ?_ | refine aF ?_); simp only [go_sem, reduceCtorEq, e1]) | refine wT ?_ | refine wF ?_ | refine wC (fun h => ?_) (fun h => ?_) | refine iK ?_ | refine aI2 ?_ | (refine hK _ ?_; clear hK K) | clear hK K)
      rw [h2]
def lnkE : List Rf → Option Rf → Int
  | [], _ => 0
  | a :: r, p => if badId a.1 || badId a.2 then 2 else if p.any (fun q => decide (cmpRf q a ≥ 0)) then 8 else lnkE r (some a)
def lnksE (l : List Rf) : Int := if decide ((l.length : Int) > 16) then 6 else lnkE l none
def prevR (l : List Rf) (i : Nat) : Option Rf := match i with
  | 0 => none
  | k + 1 => l[k]?
theorem links_c (l : List Rf) : PCall Tryz.prog 99 [.c (.im (.sl 137 (l.map refA)))] (ft (.int .i64 (lnksE l))) := by
  unfold lnksE
  have cb := badId_c
  have cc := compareRefs_c
  refine PCall.intro (nt := 38) (rs := [.tmp 2]) Tryz.func99 rfl ⟨by kernel_rfl, by kernel_rfl, by kernel_rfl⟩ (by simp) ?_
  rintro ⟨P, w0, ok0, may, np, pblk⟩ rfl rfl
  refine W.lenB 0 rfl tE137 fun hl _ => ?_
  rw [List.length_map, maxLen_is] at hl
  cases h0 : decide ((l.length : Int) > 16) with
  | true => 
    repeat' (first | refine W.seq fun K hK => ?_ | refine W.block ?_ | ((first | refine wR ?_ | refine wD ?_ | refine W.skip ?_ | refine W.exit ?_ | refine W.ret (Post.ret ?_) | refine aP ?_ | refine aF ?_); simp only [go_sem, reduceCtorEq, h0, List.length_map]) | refine wT ?_ | refine wF ?_ | refine wC (fun h => ?_) (fun h => ?_) | refine iK ?_ | refine aI2 ?_ | (refine hK _ ?_; clear hK K) | clear hK K)
  | false =>
    repeat' (first | refine W.seq fun K hK => ?_ | refine W.block ?_ | ((first | refine wR ?_ | refine wD ?_ | refine W.skip ?_ | refine W.exit ?_ | refine W.ret (Post.ret ?_) | refine aP ?_ | refine aF ?_); simp only [go_sem, reduceCtorEq, h0, List.length_map]) | refine wT ?_ | refine wF ?_ | refine wC (fun h => ?_) (fun h => ?_) | refine iK ?_ | refine aI2 ?_ | (refine hK _ ?_; clear hK K) | clear hK K)
    refine W.loopF (T := fun i : Nat => { t := [(0, .c (.im (.sl 137 (l.map refA)))), (8, .c (.im (.sl 137 (l.map refA)))), (9, ft (.int .i64 l.length)), (10, ft (.int .i64 (i : Nat)))], h := [], nx := 0, ex := [], nt := 38 })
      (Inv := fun i => i ≤ l.length ∧ lnkE l none = lnkE (l.drop i) (prevR l i)) (μ := fun i => l.length - i) (x0 := 0) (Fits.fit [] [0, 8, 9, 10] 0 rfl rfl ?_) ⟨Nat.zero_le _, rfl⟩ ?_
    · simp only [go_sem]
      exact Fits.rfl
    rintro i ⟨hi, hinv⟩ KL hKL
    by_cases hlt : i < l.length
    · obtain ⟨a, hx, hm, hd⟩ := drop_at hlt
      have e1 : decide ((i : Int) < l.length) = true := by simp; omega
      have hw := w64s i (by omega)
      rw [hd, lnkE] at hinv
      have hpn : prevR l (i + 1) = some a := by simp [prevR, hx]
      rw [← hpn] at hinv
      have hend : (prevR l i).any (fun q => decide (cmpRf q a ≥ 0)) = false → badId a.1 = false → badId a.2 = false → lnkE l none = lnkE (l.drop (i + 1)) (prevR l (i + 1)) := fun h h2 h3 => by rw [hinv, h2, h3, h]; rfl
      have h8 : (prevR l i).any (fun q => decide (cmpRf q a ≥ 0)) = true → badId a.1 = false → badId a.2 = false → lnkE l none = 8 := fun h h2 h3 => by rw [hinv, h2, h3, h]; rfl
      have h9 : (badId a.1 || badId a.2) = true → lnkE l none = 2 := fun h => by rw [hinv, h]; rfl
      clear hinv hpn
      cases h1 : badId a.1 with
      | true =>
        have h2 := h9 (by rw [h1]; rfl)
        clear h9 h8 hend
        repeat' (first | refine W.seq fun K hK => ?_ | refine W.block ?_ | ((first | refine wR ?_ | refine wD ?_ | refine W.skip ?_ | refine W.exit ?_ | refine W.ret (Post.ret ?_) | refine aP ?_ | refine aF ?_); simp only [go_sem, reduceCtorEq, List.getElem?_map, hx, refA, e1, h1, List.length_map]) | refine wT ?_ | refine wF ?_ | refine wC (fun h => ?_) (fun h => ?_) | refine iK ?_ | refine aI2 ?_ | (refine hK _ ?_; clear hK K) | clear hK K)
        rw [h2]
      | false =>
        cases h3 : badId a.2 with
        | true =>
          have h2 := h9 (by rw [h3]; simp)
          clear h9 h8 hend
          repeat' (first | refine W.seq fun K hK => ?_ | refine W.block ?_ | ((first | refine wR ?_ | refine wD ?_ | refine W.skip ?_ | refine W.exit ?_ | refine W.ret (Post.ret ?_) | refine aP ?_ | refine aF ?_); simp only [go_sem, reduceCtorEq, List.getElem?_map, hx, refA, e1, h1, h3, List.length_map]) | refine wT ?_ | refine wF ?_ | refine wC (fun h => ?_) (fun h => ?_) | refine iK ?_ | refine aI2 ?_ | (refine hK _ ?_; clear hK K) | clear hK K)
          rw [h2]
        | false =>
          rcases i with _ | i
          · have h2 : decide ((((0 : Nat) : Nat) : Int) > 0) = false := by decide
            have h4 := hend rfl h1 h3
            clear h9 h8 hend
            repeat' (first | refine W.seq fun K hK => ?_ | refine W.block ?_ | ((first | refine wR ?_ | refine wD ?_ | refine W.skip ?_ | refine W.exit ?_ | refine W.ret (Post.ret ?_) | refine aP ?_ | refine aF ?_); simp only [go_sem, reduceCtorEq, List.getElem?_map, hx, refA, e1, h1, h2, h3, hw, List.length_map]) | refine wT ?_ | refine wF ?_ | refine wC (fun h => ?_) (fun h => ?_) | refine iK ?_ | refine aI2 ?_ | (refine hK _ ?_; clear hK K) | clear hK K)
            refine hKL.to (0 + 1) ⟨by omega, h4⟩ (by omega) (Fits.fit [] [0, 8, 9, 10] 0 rfl rfl ?_)
            simp only [go_sem]
            exact Fits.rfl
          · obtain ⟨b, hy, hm', hd'⟩ := drop_at (show i < l.length by omega)
            have h2 : decide (((i + 1 : Nat) : Int) > 0) = true := by rw [decide_eq_true_eq]; omega
            have hw1 : IntKind.i64.wrap (((i + 1 : Nat) : Int) - 1) = ((i : Nat) : Int) := by rw [w64 (by omega) (by omega)]; omega
            have hp : (prevR l (i + 1)).any (fun q => decide (cmpRf q a ≥ 0)) = decide (cmpRf b a ≥ 0) := by simp [prevR, hy]
            rw [hp] at hend h8
            have c2 := cc b a
            simp only [refA, List.map] at c2
            clear cc
            cases h4 : decide (cmpRf b a ≥ 0) with
            | true =>
              have h5 := h8 h4 h1 h3
              clear h9 h8 hend
              repeat' (first | refine W.seq fun K hK => ?_ | refine W.block ?_ | ((first | refine wR ?_ | refine wD ?_ | refine W.skip ?_ | refine W.exit ?_ | refine W.ret (Post.ret ?_) | refine aP ?_ | refine aF ?_); simp only [go_sem, reduceCtorEq, List.getElem?_map, hx, hy, refA, e1, h1, h2, h3, h4, hw1, List.length_map]) | refine wT ?_ | refine wF ?_ | refine wC (fun h => ?_) (fun h => ?_) | refine iK ?_ | refine aI2 ?_ | (refine hK _ ?_; clear hK K) | clear hK K)
              rw [h5]
            | false =>
              have h5 := hend h4 h1 h3
              clear h9 h8 hend
              repeat' (first | refine W.seq fun K hK => ?_ | refine W.block ?_ | ((first | refine wR ?_ | refine wD ?_ | refine W.skip ?_ | refine W.exit ?_ | refine W.ret (Post.ret ?_) | refine aP ?_ | refine aF ?_); simp only [go_sem, reduceCtorEq, List.getElem?_map, hx, hy, refA, e1, h1, h2, h3, h4, hw, hw1, List.length_map]) | refine wT ?_ | refine wF ?_ | refine wC (fun h => ?_) (fun h => ?_) | refine iK ?_ | refine aI2 ?_ | (refine hK _ ?_; clear hK K) | clear hK K)
              refine hKL.to (i + 1 + 1) ⟨by omega, h5⟩ (by omega) (Fits.fit [] [0, 8, 9, 10] 0 rfl rfl ?_)
              simp only [go_sem]
              exact Fits.rfl
    · obtain rfl : i = l.length := by omega
      have e1 : decide ((l.length : Int) < l.length) = false := by simp
      have h2 : lnkE l none = 0 := by rw [hinv, List.drop_of_length_le (Nat.le_refl _)]; rfl
      clear hKL
      repeat' (first | refine W.seq fun K hK => ?_ | refine W.block ?_ | ((first | refine wR ?_ | refine wD ?_ | refine W.skip ?_ | refine W.exit ?_ | refine W.ret (Post.ret ?_) | refine aP ?_ | refine aF ?_); simp only [go_sem, reduceCtorEq, e1]) | refine wT ?_ | refine wF ?_ | refine wC (fun h => ?_) (fun h => ?_) | refine iK ?_ | refine aI2 ?_ | (refine hK _ ?_; clear hK K) | clear hK K)
      rw [h2]
theorem orE_c (l : List Int) : PCall Tryz.prog 97 [.c (.im (.sl 65 (l.map iA)))] (ft (.int .i64 (orL l))) := by
  refine PCall.intro (nt := 18) (rs := [.tmp 2]) Tryz.func97 rfl ⟨by kernel_rfl, by kernel_rfl, by kernel_rfl⟩ (by simp) ?_
  rintro ⟨P, w0, ok0, may, np, pblk⟩ rfl rfl
  refine W.lenIm 0 rfl fun hlen => ?_
  rw [List.length_map, maxLen_is] at hlen
  repeat' (first | refine W.seq fun K hK => ?_ | refine W.block ?_ | ((first | refine wR ?_ | refine wD ?_ | refine W.skip ?_ | refine W.exit ?_ | refine W.ret (Post.ret ?_) | refine aP ?_ | refine aF ?_); simp only [go_sem, reduceCtorEq, List.length_map]) | refine wT ?_ | refine wF ?_ | refine wC (fun h => ?_) (fun h => ?_) | refine iK ?_ | refine aI2 ?_ | (refine hK _ ?_; clear hK K) | clear hK K)
  refine W.loopF (T := fun i : Nat => { t := [(2, ft (.int .i64 0)), (3, ft (.int .i64 0)), (6, .c (.im (.sl 65 (l.map iA)))), (7, ft (.int .i64 l.length)), (8, ft (.int .i64 (i : Nat)))], h := [], nx := 0, ex := [], nt := 18 })
    (Inv := fun i => i ≤ l.length ∧ orL l = orL (l.drop i)) (μ := fun i => l.length - i) (x0 := 0) (Fits.fit [] [2, 3, 6, 7, 8] 0 rfl rfl ?_) ⟨Nat.zero_le _, rfl⟩ ?_
  · simp only [go_sem]
    exact Fits.rfl
  rintro i ⟨hi, hinv⟩ KL hKL
  by_cases hlt : i < l.length
  · obtain ⟨x, hx, hm, hd⟩ := drop_at hlt
    have e1 : decide ((i : Int) < l.length) = true := by simp; omega
    have hw := w64s i (by omega)
    by_cases h0 : x = 0
    · have e2 : (x != 0) = false := by simp [h0]
      repeat' (first | refine W.seq fun K hK => ?_ | refine W.block ?_ | ((first | refine wR ?_ | refine wD ?_ | refine W.skip ?_ | refine W.exit ?_ | refine W.ret (Post.ret ?_) | refine aP ?_ | refine aF ?_); simp only [go_sem, reduceCtorEq, e1, e2, hw, List.getElem?_map, hx, iA]) | refine wT ?_ | refine wF ?_ | refine wC (fun h => ?_) (fun h => ?_) | refine iK ?_ | refine aI2 ?_ | (refine hK _ ?_; clear hK K) | clear hK K)
      refine hKL.to (i + 1) ⟨by omega, ?_⟩ (by omega) (Fits.fit [] [2, 3, 6, 7, 8] 0 rfl rfl ?_)
      · rw [hinv, hd]; simp [orL, h0]
      · simp only [go_sem]
        exact Fits.rfl
    · have e2 : (x != 0) = true := by simp [h0]
      repeat' (first | refine W.seq fun K hK => ?_ | refine W.block ?_ | ((first | refine wR ?_ | refine wD ?_ | refine W.skip ?_ | refine W.exit ?_ | refine W.ret (Post.ret ?_) | refine aP ?_ | refine aF ?_); simp only [go_sem, reduceCtorEq, e1, e2, hw, List.getElem?_map, hx, iA]) | refine wT ?_ | refine wF ?_ | refine wC (fun h => ?_) (fun h => ?_) | refine iK ?_ | refine aI2 ?_ | (refine hK _ ?_; clear hK K) | clear hK K)
      simp [hinv, hd, orL, h0]
  · have e1 : decide ((i : Int) < l.length) = false := by simp; omega
    obtain rfl : i = l.length := by omega
    clear hKL
    repeat' (first | refine W.seq fun K hK => ?_ | refine W.block ?_ | ((first | refine wR ?_ | refine wD ?_ | refine W.skip ?_ | refine W.exit ?_ | refine W.ret (Post.ret ?_) | refine aP ?_ | refine aF ?_); simp only [go_sem, reduceCtorEq, e1]) | refine wT ?_ | refine wF ?_ | refine wC (fun h => ?_) (fun h => ?_) | refine iK ?_ | refine aI2 ?_ | (refine hK _ ?_; clear hK K) | clear hK K)
    simp [hinv, orL]
end Go.Proofs.YtigenjeealkdlaaGreat
namespace Go.Proofs.YtigenjeealkdlaaGreat
open Go.RowKit Go.Exe
theorem mxI (a b : Int) : (if b > a then b else a) = max a b := by split <;> omega
theorem mnI (a b : Int) : (if b < a then b else a) = min a b := by split <;> omega
def ckId (s : Spn) : Bool := badId s.tr || badId s.id || decide (s.pa < 0) || decide (s.pa > 1099511627776) || decide (s.rev < 0) || decide (s.rev > 1048576) || decide (s.clk < 1) || decide (s.clk > 1048576)
def ckNm (s : Spn) : Bool := !isName s.sv || !isName s.op || (!emB s.ve && !isName s.ve)
def chkS (s : Spn) : Int :=
  if ckId s then 2 else if decide (s.kd < 1) || decide (s.kd > 5) then 12 else if ckNm s then 11
  else if decide (min s.st s.en < -1099511627776) || decide (max s.st s.en > 1099511627776) then 32
  else if decide (s.en < s.st) then 8 else if decide (s.en - s.st > 1099511627776) then 32 else orL [attsE s.ats, lnksE s.lks]
def StrOk (s : Spn) : Prop := (s.sv.size ≤ 140737488355328 ∧ s.ve.size ≤ 140737488355328 ∧ s.op.size ≤ 140737488355328) ∧ ∀ a ∈ s.ats, AttOk a
attribute [local irreducible] W AX Run RunD AStep AOp AOpX AStB AStH AStG Fits PCall GCall PostG Post Stop
theorem check64_c (s : Spn) (hz : StrOk s) : PCall Tryz.prog 64 [spT s] (ft (.int .i64 (chkS s))) := by
  have cb := badId_c
  have n1 := isName_c s.sv hz.1.1
  have n2 := isName_c s.ve hz.1.2.1
  have n3 := isName_c s.op hz.1.2.2
  have ca := attrs_c s.ats hz.2
  have cl := links_c s.lks
  have co := orE_c [attsE s.ats, lnksE s.lks]
  simp only [List.map, iA] at co
  have he : (ByteArray.mk #[]) = ByteArray.empty := rfl
  clear hz
  simp only [spT, spA, List.map]
  cases a1 : badId s.tr with
  | true =>
    have hr : chkS s = 2 := by simp only [chkS, ckId, ckNm, emB, a1, Bool.true_or, Bool.or_true, Bool.false_or, Bool.or_false, Bool.not_true, Bool.not_false, Bool.and_true, Bool.true_and, Bool.false_and, Bool.and_false, if_true, Bool.false_eq_true, if_false]
    rw [hr]
    refine PCall.intro (nt := 109) (rs := [.tmp 2]) Tryz.func64 rfl ⟨by kernel_rfl, by kernel_rfl, by kernel_rfl⟩ (by simp) ?_
    rintro ⟨P, w0, ok0, may, np, pblk⟩ rfl rfl
    repeat' (first | refine W.seq fun K hK => ?_ | refine W.block ?_ | ((first | refine wR ?_ | refine wD ?_ | refine W.skip ?_ | refine W.exit ?_ | refine W.ret (Post.ret ?_) | refine aP ?_ | refine aF ?_); simp only [go_sem, reduceCtorEq, he, mxI, mnI, a1]) | refine wT ?_ | refine wF ?_ | refine wC (fun h => ?_) (fun h => ?_) | refine iK ?_ | refine aI2 ?_ | (refine hK _ ?_; clear hK K) | clear hK K)
  | false =>
    cases a2 : badId s.id with
    | true =>
      have hr : chkS s = 2 := by simp only [chkS, ckId, ckNm, emB, a1, a2, Bool.true_or, Bool.or_true, Bool.false_or, Bool.or_false, Bool.not_true, Bool.not_false, Bool.and_true, Bool.true_and, Bool.false_and, Bool.and_false, if_true, Bool.false_eq_true, if_false]
      rw [hr]
      refine PCall.intro (nt := 109) (rs := [.tmp 2]) Tryz.func64 rfl ⟨by kernel_rfl, by kernel_rfl, by kernel_rfl⟩ (by simp) ?_
      rintro ⟨P, w0, ok0, may, np, pblk⟩ rfl rfl
      repeat' (first | refine W.seq fun K hK => ?_ | refine W.block ?_ | ((first | refine wR ?_ | refine wD ?_ | refine W.skip ?_ | refine W.exit ?_ | refine W.ret (Post.ret ?_) | refine aP ?_ | refine aF ?_); simp only [go_sem, reduceCtorEq, he, mxI, mnI, a1, a2]) | refine wT ?_ | refine wF ?_ | refine wC (fun h => ?_) (fun h => ?_) | refine iK ?_ | refine aI2 ?_ | (refine hK _ ?_; clear hK K) | clear hK K)
    | false =>
      cases a3 : decide (s.pa < 0) with
      | true =>
        have hr : chkS s = 2 := by simp only [chkS, ckId, ckNm, emB, a1, a2, a3, Bool.true_or, Bool.or_true, Bool.false_or, Bool.or_false, Bool.not_true, Bool.not_false, Bool.and_true, Bool.true_and, Bool.false_and, Bool.and_false, if_true, Bool.false_eq_true, if_false]
        rw [hr]
        refine PCall.intro (nt := 109) (rs := [.tmp 2]) Tryz.func64 rfl ⟨by kernel_rfl, by kernel_rfl, by kernel_rfl⟩ (by simp) ?_
        rintro ⟨P, w0, ok0, may, np, pblk⟩ rfl rfl
        repeat' (first | refine W.seq fun K hK => ?_ | refine W.block ?_ | ((first | refine wR ?_ | refine wD ?_ | refine W.skip ?_ | refine W.exit ?_ | refine W.ret (Post.ret ?_) | refine aP ?_ | refine aF ?_); simp only [go_sem, reduceCtorEq, he, mxI, mnI, a1, a2, a3]) | refine wT ?_ | refine wF ?_ | refine wC (fun h => ?_) (fun h => ?_) | refine iK ?_ | refine aI2 ?_ | (refine hK _ ?_; clear hK K) | clear hK K)
      | false =>
        cases a4 : decide (s.pa > 1099511627776) with
        | true =>
          have hr : chkS s = 2 := by simp only [chkS, ckId, ckNm, emB, a1, a2, a3, a4, Bool.true_or, Bool.or_true, Bool.false_or, Bool.or_false, Bool.not_true, Bool.not_false, Bool.and_true, Bool.true_and, Bool.false_and, Bool.and_false, if_true, Bool.false_eq_true, if_false]
          rw [hr]
          refine PCall.intro (nt := 109) (rs := [.tmp 2]) Tryz.func64 rfl ⟨by kernel_rfl, by kernel_rfl, by kernel_rfl⟩ (by simp) ?_
          rintro ⟨P, w0, ok0, may, np, pblk⟩ rfl rfl
          repeat' (first | refine W.seq fun K hK => ?_ | refine W.block ?_ | ((first | refine wR ?_ | refine wD ?_ | refine W.skip ?_ | refine W.exit ?_ | refine W.ret (Post.ret ?_) | refine aP ?_ | refine aF ?_); simp only [go_sem, reduceCtorEq, he, mxI, mnI, a1, a2, a3, a4]) | refine wT ?_ | refine wF ?_ | refine wC (fun h => ?_) (fun h => ?_) | refine iK ?_ | refine aI2 ?_ | (refine hK _ ?_; clear hK K) | clear hK K)
        | false =>
          cases a5 : decide (s.rev < 0) with
          | true =>
            have hr : chkS s = 2 := by simp only [chkS, ckId, ckNm, emB, a1, a2, a3, a4, a5, Bool.true_or, Bool.or_true, Bool.false_or, Bool.or_false, Bool.not_true, Bool.not_false, Bool.and_true, Bool.true_and, Bool.false_and, Bool.and_false, if_true, Bool.false_eq_true, if_false]
            rw [hr]
            refine PCall.intro (nt := 109) (rs := [.tmp 2]) Tryz.func64 rfl ⟨by kernel_rfl, by kernel_rfl, by kernel_rfl⟩ (by simp) ?_
            rintro ⟨P, w0, ok0, may, np, pblk⟩ rfl rfl
            repeat' (first | refine W.seq fun K hK => ?_ | refine W.block ?_ | ((first | refine wR ?_ | refine wD ?_ | refine W.skip ?_ | refine W.exit ?_ | refine W.ret (Post.ret ?_) | refine aP ?_ | refine aF ?_); simp only [go_sem, reduceCtorEq, he, mxI, mnI, a1, a2, a3, a4, a5]) | refine wT ?_ | refine wF ?_ | refine wC (fun h => ?_) (fun h => ?_) | refine iK ?_ | refine aI2 ?_ | (refine hK _ ?_; clear hK K) | clear hK K)
          | false =>
            cases a6 : decide (s.rev > 1048576) with
            | true =>
              have hr : chkS s = 2 := by simp only [chkS, ckId, ckNm, emB, a1, a2, a3, a4, a5, a6, Bool.true_or, Bool.or_true, Bool.false_or, Bool.or_false, Bool.not_true, Bool.not_false, Bool.and_true, Bool.true_and, Bool.false_and, Bool.and_false, if_true, Bool.false_eq_true, if_false]
              rw [hr]
              refine PCall.intro (nt := 109) (rs := [.tmp 2]) Tryz.func64 rfl ⟨by kernel_rfl, by kernel_rfl, by kernel_rfl⟩ (by simp) ?_
              rintro ⟨P, w0, ok0, may, np, pblk⟩ rfl rfl
              repeat' (first | refine W.seq fun K hK => ?_ | refine W.block ?_ | ((first | refine wR ?_ | refine wD ?_ | refine W.skip ?_ | refine W.exit ?_ | refine W.ret (Post.ret ?_) | refine aP ?_ | refine aF ?_); simp only [go_sem, reduceCtorEq, he, mxI, mnI, a1, a2, a3, a4, a5, a6]) | refine wT ?_ | refine wF ?_ | refine wC (fun h => ?_) (fun h => ?_) | refine iK ?_ | refine aI2 ?_ | (refine hK _ ?_; clear hK K) | clear hK K)
            | false =>
              cases a7 : decide (s.clk < 1) with
              | true =>
                have hr : chkS s = 2 := by simp only [chkS, ckId, ckNm, emB, a1, a2, a3, a4, a5, a6, a7, Bool.true_or, Bool.or_true, Bool.false_or, Bool.or_false, Bool.not_true, Bool.not_false, Bool.and_true, Bool.true_and, Bool.false_and, Bool.and_false, if_true, Bool.false_eq_true, if_false]
                rw [hr]
                refine PCall.intro (nt := 109) (rs := [.tmp 2]) Tryz.func64 rfl ⟨by kernel_rfl, by kernel_rfl, by kernel_rfl⟩ (by simp) ?_
                rintro ⟨P, w0, ok0, may, np, pblk⟩ rfl rfl
                repeat' (first | refine W.seq fun K hK => ?_ | refine W.block ?_ | ((first | refine wR ?_ | refine wD ?_ | refine W.skip ?_ | refine W.exit ?_ | refine W.ret (Post.ret ?_) | refine aP ?_ | refine aF ?_); simp only [go_sem, reduceCtorEq, he, mxI, mnI, a1, a2, a3, a4, a5, a6, a7]) | refine wT ?_ | refine wF ?_ | refine wC (fun h => ?_) (fun h => ?_) | refine iK ?_ | refine aI2 ?_ | (refine hK _ ?_; clear hK K) | clear hK K)
              | false =>
                cases a8 : decide (s.clk > 1048576) with
                | true =>
                  have hr : chkS s = 2 := by simp only [chkS, ckId, ckNm, emB, a1, a2, a3, a4, a5, a6, a7, a8, Bool.true_or, Bool.or_true, Bool.false_or, Bool.or_false, Bool.not_true, Bool.not_false, Bool.and_true, Bool.true_and, Bool.false_and, Bool.and_false, if_true, Bool.false_eq_true, if_false]
                  rw [hr]
                  refine PCall.intro (nt := 109) (rs := [.tmp 2]) Tryz.func64 rfl ⟨by kernel_rfl, by kernel_rfl, by kernel_rfl⟩ (by simp) ?_
                  rintro ⟨P, w0, ok0, may, np, pblk⟩ rfl rfl
                  repeat' (first | refine W.seq fun K hK => ?_ | refine W.block ?_ | ((first | refine wR ?_ | refine wD ?_ | refine W.skip ?_ | refine W.exit ?_ | refine W.ret (Post.ret ?_) | refine aP ?_ | refine aF ?_); simp only [go_sem, reduceCtorEq, he, mxI, mnI, a1, a2, a3, a4, a5, a6, a7, a8]) | refine wT ?_ | refine wF ?_ | refine wC (fun h => ?_) (fun h => ?_) | refine iK ?_ | refine aI2 ?_ | (refine hK _ ?_; clear hK K) | clear hK K)
                | false =>
                  cases b1 : decide (s.kd < 1) with
                  | true =>
                    have hr : chkS s = 12 := by simp only [chkS, ckId, ckNm, emB, a1, a2, a3, a4, a5, a6, a7, a8, b1, Bool.true_or, Bool.or_true, Bool.false_or, Bool.or_false, Bool.not_true, Bool.not_false, Bool.and_true, Bool.true_and, Bool.false_and, Bool.and_false, if_true, Bool.false_eq_true, if_false]
                    rw [hr]
                    refine PCall.intro (nt := 109) (rs := [.tmp 2]) Tryz.func64 rfl ⟨by kernel_rfl, by kernel_rfl, by kernel_rfl⟩ (by simp) ?_
                    rintro ⟨P, w0, ok0, may, np, pblk⟩ rfl rfl
                    repeat' (first | refine W.seq fun K hK => ?_ | refine W.block ?_ | ((first | refine wR ?_ | refine wD ?_ | refine W.skip ?_ | refine W.exit ?_ | refine W.ret (Post.ret ?_) | refine aP ?_ | refine aF ?_); simp only [go_sem, reduceCtorEq, he, mxI, mnI, a1, a2, a3, a4, a5, a6, a7, a8, b1]) | refine wT ?_ | refine wF ?_ | refine wC (fun h => ?_) (fun h => ?_) | refine iK ?_ | refine aI2 ?_ | (refine hK _ ?_; clear hK K) | clear hK K)
                  | false =>
                    cases b2 : decide (s.kd > 5) with
                    | true =>
                      have hr : chkS s = 12 := by simp only [chkS, ckId, ckNm, emB, a1, a2, a3, a4, a5, a6, a7, a8, b1, b2, Bool.true_or, Bool.or_true, Bool.false_or, Bool.or_false, Bool.not_true, Bool.not_false, Bool.and_true, Bool.true_and, Bool.false_and, Bool.and_false, if_true, Bool.false_eq_true, if_false]
                      rw [hr]
                      refine PCall.intro (nt := 109) (rs := [.tmp 2]) Tryz.func64 rfl ⟨by kernel_rfl, by kernel_rfl, by kernel_rfl⟩ (by simp) ?_
                      rintro ⟨P, w0, ok0, may, np, pblk⟩ rfl rfl
                      repeat' (first | refine W.seq fun K hK => ?_ | refine W.block ?_ | ((first | refine wR ?_ | refine wD ?_ | refine W.skip ?_ | refine W.exit ?_ | refine W.ret (Post.ret ?_) | refine aP ?_ | refine aF ?_); simp only [go_sem, reduceCtorEq, he, mxI, mnI, a1, a2, a3, a4, a5, a6, a7, a8, b1, b2]) | refine wT ?_ | refine wF ?_ | refine wC (fun h => ?_) (fun h => ?_) | refine iK ?_ | refine aI2 ?_ | (refine hK _ ?_; clear hK K) | clear hK K)
                    | false =>
                      cases c1 : isName s.sv with
                      | false =>
                        rw [c1] at n1
                        have hr : chkS s = 11 := by simp only [chkS, ckId, ckNm, emB, a1, a2, a3, a4, a5, a6, a7, a8, b1, b2, c1, Bool.true_or, Bool.or_true, Bool.false_or, Bool.or_false, Bool.not_true, Bool.not_false, Bool.and_true, Bool.true_and, Bool.false_and, Bool.and_false, if_true, Bool.false_eq_true, if_false]
                        rw [hr]
                        refine PCall.intro (nt := 109) (rs := [.tmp 2]) Tryz.func64 rfl ⟨by kernel_rfl, by kernel_rfl, by kernel_rfl⟩ (by simp) ?_
                        rintro ⟨P, w0, ok0, may, np, pblk⟩ rfl rfl
                        repeat' (first | refine W.seq fun K hK => ?_ | refine W.block ?_ | ((first | refine wR ?_ | refine wD ?_ | refine W.skip ?_ | refine W.exit ?_ | refine W.ret (Post.ret ?_) | refine aP ?_ | refine aF ?_); simp only [go_sem, reduceCtorEq, he, mxI, mnI, a1, a2, a3, a4, a5, a6, a7, a8, b1, b2, c1]) | refine wT ?_ | refine wF ?_ | refine wC (fun h => ?_) (fun h => ?_) | refine iK ?_ | refine aI2 ?_ | (refine hK _ ?_; clear hK K) | clear hK K)
                      | true =>
                        rw [c1] at n1
                        cases c2 : isName s.op with
                        | false =>
                          rw [c2] at n3
                          have hr : chkS s = 11 := by simp only [chkS, ckId, ckNm, emB, a1, a2, a3, a4, a5, a6, a7, a8, b1, b2, c1, c2, Bool.true_or, Bool.or_true, Bool.false_or, Bool.or_false, Bool.not_true, Bool.not_false, Bool.and_true, Bool.true_and, Bool.false_and, Bool.and_false, if_true, Bool.false_eq_true, if_false]
                          rw [hr]
                          refine PCall.intro (nt := 109) (rs := [.tmp 2]) Tryz.func64 rfl ⟨by kernel_rfl, by kernel_rfl, by kernel_rfl⟩ (by simp) ?_
                          rintro ⟨P, w0, ok0, may, np, pblk⟩ rfl rfl
                          repeat' (first | refine W.seq fun K hK => ?_ | refine W.block ?_ | ((first | refine wR ?_ | refine wD ?_ | refine W.skip ?_ | refine W.exit ?_ | refine W.ret (Post.ret ?_) | refine aP ?_ | refine aF ?_); simp only [go_sem, reduceCtorEq, he, mxI, mnI, a1, a2, a3, a4, a5, a6, a7, a8, b1, b2, c1, c2]) | refine wT ?_ | refine wF ?_ | refine wC (fun h => ?_) (fun h => ?_) | refine iK ?_ | refine aI2 ?_ | (refine hK _ ?_; clear hK K) | clear hK K)
                        | true =>
                          rw [c2] at n3
                          cases v1 : (s.ve.toList == ByteArray.empty.toList) with
                          | true =>
                            cases d1 : decide (min s.st s.en < -1099511627776) with
                            | true =>
                              have hr : chkS s = 32 := by simp only [chkS, ckId, ckNm, emB, a1, a2, a3, a4, a5, a6, a7, a8, b1, b2, c1, c2, v1, d1, Bool.true_or, Bool.or_true, Bool.false_or, Bool.or_false, Bool.not_true, Bool.not_false, Bool.and_true, Bool.true_and, Bool.false_and, Bool.and_false, Bool.or_self, if_true, Bool.false_eq_true, if_false]
                              rw [hr]
                              refine PCall.intro (nt := 109) (rs := [.tmp 2]) Tryz.func64 rfl ⟨by kernel_rfl, by kernel_rfl, by kernel_rfl⟩ (by simp) ?_
                              rintro ⟨P, w0, ok0, may, np, pblk⟩ rfl rfl
                              repeat' (first | refine W.seq fun K hK => ?_ | refine W.block ?_ | ((first | refine wR ?_ | refine wD ?_ | refine W.skip ?_ | refine W.exit ?_ | refine W.ret (Post.ret ?_) | refine aP ?_ | refine aF ?_); simp only [go_sem, reduceCtorEq, he, mxI, mnI, a1, a2, a3, a4, a5, a6, a7, a8, b1, b2, c1, c2, v1, d1]) | refine wT ?_ | refine wF ?_ | refine wC (fun h => ?_) (fun h => ?_) | refine iK ?_ | refine aI2 ?_ | (refine hK _ ?_; clear hK K) | clear hK K)
                            | false =>
                              cases d2 : decide (max s.st s.en > 1099511627776) with
                              | true =>
                                have hr : chkS s = 32 := by simp only [chkS, ckId, ckNm, emB, a1, a2, a3, a4, a5, a6, a7, a8, b1, b2, c1, c2, v1, d1, d2, Bool.true_or, Bool.or_true, Bool.false_or, Bool.or_false, Bool.not_true, Bool.not_false, Bool.and_true, Bool.true_and, Bool.false_and, Bool.and_false, Bool.or_self, if_true, Bool.false_eq_true, if_false]
                                rw [hr]
                                refine PCall.intro (nt := 109) (rs := [.tmp 2]) Tryz.func64 rfl ⟨by kernel_rfl, by kernel_rfl, by kernel_rfl⟩ (by simp) ?_
                                rintro ⟨P, w0, ok0, may, np, pblk⟩ rfl rfl
                                repeat' (first | refine W.seq fun K hK => ?_ | refine W.block ?_ | ((first | refine wR ?_ | refine wD ?_ | refine W.skip ?_ | refine W.exit ?_ | refine W.ret (Post.ret ?_) | refine aP ?_ | refine aF ?_); simp only [go_sem, reduceCtorEq, he, mxI, mnI, a1, a2, a3, a4, a5, a6, a7, a8, b1, b2, c1, c2, v1, d1, d2]) | refine wT ?_ | refine wF ?_ | refine wC (fun h => ?_) (fun h => ?_) | refine iK ?_ | refine aI2 ?_ | (refine hK _ ?_; clear hK K) | clear hK K)
                              | false =>
                                have hw : IntKind.i64.wrap (s.en - s.st) = s.en - s.st := by rw [decide_eq_false_iff_not] at d1 d2; exact w64 (by omega) (by omega)
                                cases d3 : decide (s.en < s.st) with
                                | true =>
                                  have hr : chkS s = 8 := by simp only [chkS, ckId, ckNm, emB, a1, a2, a3, a4, a5, a6, a7, a8, b1, b2, c1, c2, v1, d1, d2, d3, Bool.true_or, Bool.or_true, Bool.false_or, Bool.or_false, Bool.not_true, Bool.not_false, Bool.and_true, Bool.true_and, Bool.false_and, Bool.and_false, Bool.or_self, if_true, Bool.false_eq_true, if_false]
                                  rw [hr]
                                  refine PCall.intro (nt := 109) (rs := [.tmp 2]) Tryz.func64 rfl ⟨by kernel_rfl, by kernel_rfl, by kernel_rfl⟩ (by simp) ?_
                                  rintro ⟨P, w0, ok0, may, np, pblk⟩ rfl rfl
                                  repeat' (first | refine W.seq fun K hK => ?_ | refine W.block ?_ | ((first | refine wR ?_ | refine wD ?_ | refine W.skip ?_ | refine W.exit ?_ | refine W.ret (Post.ret ?_) | refine aP ?_ | refine aF ?_); simp only [go_sem, reduceCtorEq, he, mxI, mnI, a1, a2, a3, a4, a5, a6, a7, a8, b1, b2, c1, c2, v1, d1, d2, d3]) | refine wT ?_ | refine wF ?_ | refine wC (fun h => ?_) (fun h => ?_) | refine iK ?_ | refine aI2 ?_ | (refine hK _ ?_; clear hK K) | clear hK K)
                                | false =>
                                  cases d4 : decide (s.en - s.st > 1099511627776) with
                                  | true =>
                                    have hr : chkS s = 32 := by simp only [chkS, ckId, ckNm, emB, a1, a2, a3, a4, a5, a6, a7, a8, b1, b2, c1, c2, v1, d1, d2, d3, d4, Bool.true_or, Bool.or_true, Bool.false_or, Bool.or_false, Bool.not_true, Bool.not_false, Bool.and_true, Bool.true_and, Bool.false_and, Bool.and_false, Bool.or_self, if_true, Bool.false_eq_true, if_false]
                                    rw [hr]
                                    refine PCall.intro (nt := 109) (rs := [.tmp 2]) Tryz.func64 rfl ⟨by kernel_rfl, by kernel_rfl, by kernel_rfl⟩ (by simp) ?_
                                    rintro ⟨P, w0, ok0, may, np, pblk⟩ rfl rfl
                                    repeat' (first | refine W.seq fun K hK => ?_ | refine W.block ?_ | ((first | refine wR ?_ | refine wD ?_ | refine W.skip ?_ | refine W.exit ?_ | refine W.ret (Post.ret ?_) | refine aP ?_ | refine aF ?_); simp only [go_sem, reduceCtorEq, he, mxI, mnI, a1, a2, a3, a4, a5, a6, a7, a8, b1, b2, c1, c2, v1, d1, d2, d3, d4, hw]) | refine wT ?_ | refine wF ?_ | refine wC (fun h => ?_) (fun h => ?_) | refine iK ?_ | refine aI2 ?_ | (refine hK _ ?_; clear hK K) | clear hK K)
                                  | false =>
                                    have hr : chkS s = orL [attsE s.ats, lnksE s.lks] := by simp only [chkS, ckId, ckNm, emB, a1, a2, a3, a4, a5, a6, a7, a8, b1, b2, c1, c2, v1, d1, d2, d3, d4, Bool.true_or, Bool.or_true, Bool.false_or, Bool.or_false, Bool.not_true, Bool.not_false, Bool.and_true, Bool.true_and, Bool.false_and, Bool.and_false, Bool.or_self, if_true, Bool.false_eq_true, if_false]
                                    rw [hr]
                                    refine PCall.intro (nt := 109) (rs := [.tmp 2]) Tryz.func64 rfl ⟨by kernel_rfl, by kernel_rfl, by kernel_rfl⟩ (by simp) ?_
                                    rintro ⟨P, w0, ok0, may, np, pblk⟩ rfl rfl
                                    repeat' (first | refine W.seq fun K hK => ?_ | refine W.block ?_ | ((first | refine wR ?_ | refine wD ?_ | refine W.skip ?_ | refine W.exit ?_ | refine W.ret (Post.ret ?_) | refine aP ?_ | refine aF ?_); simp only [go_sem, reduceCtorEq, he, mxI, mnI, a1, a2, a3, a4, a5, a6, a7, a8, b1, b2, c1, c2, v1, d1, d2, d3, d4, hw]) | refine wT ?_ | refine wF ?_ | refine wC (fun h => ?_) (fun h => ?_) | refine iK ?_ | refine aI2 ?_ | (refine hK _ ?_; clear hK K) | clear hK K)
                          | false =>
                            cases v2 : isName s.ve with
                            | false =>
                              rw [v2] at n2
                              have hr : chkS s = 11 := by simp only [chkS, ckId, ckNm, emB, a1, a2, a3, a4, a5, a6, a7, a8, b1, b2, c1, c2, v1, v2, Bool.true_or, Bool.or_true, Bool.false_or, Bool.or_false, Bool.not_true, Bool.not_false, Bool.and_true, Bool.true_and, Bool.false_and, Bool.and_false, Bool.or_self, if_true, Bool.false_eq_true, if_false]
                              rw [hr]
                              refine PCall.intro (nt := 109) (rs := [.tmp 2]) Tryz.func64 rfl ⟨by kernel_rfl, by kernel_rfl, by kernel_rfl⟩ (by simp) ?_
                              rintro ⟨P, w0, ok0, may, np, pblk⟩ rfl rfl
                              repeat' (first | refine W.seq fun K hK => ?_ | refine W.block ?_ | ((first | refine wR ?_ | refine wD ?_ | refine W.skip ?_ | refine W.exit ?_ | refine W.ret (Post.ret ?_) | refine aP ?_ | refine aF ?_); simp only [go_sem, reduceCtorEq, he, mxI, mnI, a1, a2, a3, a4, a5, a6, a7, a8, b1, b2, c1, c2, v1, v2]) | refine wT ?_ | refine wF ?_ | refine wC (fun h => ?_) (fun h => ?_) | refine iK ?_ | refine aI2 ?_ | (refine hK _ ?_; clear hK K) | clear hK K)
                            | true =>
                              rw [v2] at n2
                              cases d1 : decide (min s.st s.en < -1099511627776) with
                              | true =>
                                have hr : chkS s = 32 := by simp only [chkS, ckId, ckNm, emB, a1, a2, a3, a4, a5, a6, a7, a8, b1, b2, c1, c2, v1, v2, d1, Bool.true_or, Bool.or_true, Bool.false_or, Bool.or_false, Bool.not_true, Bool.not_false, Bool.and_true, Bool.true_and, Bool.false_and, Bool.and_false, Bool.or_self, if_true, Bool.false_eq_true, if_false]
                                rw [hr]
                                refine PCall.intro (nt := 109) (rs := [.tmp 2]) Tryz.func64 rfl ⟨by kernel_rfl, by kernel_rfl, by kernel_rfl⟩ (by simp) ?_
                                rintro ⟨P, w0, ok0, may, np, pblk⟩ rfl rfl
                                repeat' (first | refine W.seq fun K hK => ?_ | refine W.block ?_ | ((first | refine wR ?_ | refine wD ?_ | refine W.skip ?_ | refine W.exit ?_ | refine W.ret (Post.ret ?_) | refine aP ?_ | refine aF ?_); simp only [go_sem, reduceCtorEq, he, mxI, mnI, a1, a2, a3, a4, a5, a6, a7, a8, b1, b2, c1, c2, v1, v2, d1]) | refine wT ?_ | refine wF ?_ | refine wC (fun h => ?_) (fun h => ?_) | refine iK ?_ | refine aI2 ?_ | (refine hK _ ?_; clear hK K) | clear hK K)
                              | false =>
                                cases d2 : decide (max s.st s.en > 1099511627776) with
                                | true =>
                                  have hr : chkS s = 32 := by simp only [chkS, ckId, ckNm, emB, a1, a2, a3, a4, a5, a6, a7, a8, b1, b2, c1, c2, v1, v2, d1, d2, Bool.true_or, Bool.or_true, Bool.false_or, Bool.or_false, Bool.not_true, Bool.not_false, Bool.and_true, Bool.true_and, Bool.false_and, Bool.and_false, Bool.or_self, if_true, Bool.false_eq_true, if_false]
                                  rw [hr]
                                  refine PCall.intro (nt := 109) (rs := [.tmp 2]) Tryz.func64 rfl ⟨by kernel_rfl, by kernel_rfl, by kernel_rfl⟩ (by simp) ?_
                                  rintro ⟨P, w0, ok0, may, np, pblk⟩ rfl rfl
                                  repeat' (first | refine W.seq fun K hK => ?_ | refine W.block ?_ | ((first | refine wR ?_ | refine wD ?_ | refine W.skip ?_ | refine W.exit ?_ | refine W.ret (Post.ret ?_) | refine aP ?_ | refine aF ?_); simp only [go_sem, reduceCtorEq, he, mxI, mnI, a1, a2, a3, a4, a5, a6, a7, a8, b1, b2, c1, c2, v1, v2, d1, d2]) | refine wT ?_ | refine wF ?_ | refine wC (fun h => ?_) (fun h => ?_) | refine iK ?_ | refine aI2 ?_ | (refine hK _ ?_; clear hK K) | clear hK K)
                                | false =>
                                  have hw : IntKind.i64.wrap (s.en - s.st) = s.en - s.st := by rw [decide_eq_false_iff_not] at d1 d2; exact w64 (by omega) (by omega)
                                  cases d3 : decide (s.en < s.st) with
                                  | true =>
                                    have hr : chkS s = 8 := by simp only [chkS, ckId, ckNm, emB, a1, a2, a3, a4, a5, a6, a7, a8, b1, b2, c1, c2, v1, v2, d1, d2, d3, Bool.true_or, Bool.or_true, Bool.false_or, Bool.or_false, Bool.not_true, Bool.not_false, Bool.and_true, Bool.true_and, Bool.false_and, Bool.and_false, Bool.or_self, if_true, Bool.false_eq_true, if_false]
                                    rw [hr]
                                    refine PCall.intro (nt := 109) (rs := [.tmp 2]) Tryz.func64 rfl ⟨by kernel_rfl, by kernel_rfl, by kernel_rfl⟩ (by simp) ?_
                                    rintro ⟨P, w0, ok0, may, np, pblk⟩ rfl rfl
                                    repeat' (first | refine W.seq fun K hK => ?_ | refine W.block ?_ | ((first | refine wR ?_ | refine wD ?_ | refine W.skip ?_ | refine W.exit ?_ | refine W.ret (Post.ret ?_) | refine aP ?_ | refine aF ?_); simp only [go_sem, reduceCtorEq, he, mxI, mnI, a1, a2, a3, a4, a5, a6, a7, a8, b1, b2, c1, c2, v1, v2, d1, d2, d3]) | refine wT ?_ | refine wF ?_ | refine wC (fun h => ?_) (fun h => ?_) | refine iK ?_ | refine aI2 ?_ | (refine hK _ ?_; clear hK K) | clear hK K)
                                  | false =>
                                    cases d4 : decide (s.en - s.st > 1099511627776) with
                                    | true =>
                                      have hr : chkS s = 32 := by simp only [chkS, ckId, ckNm, emB, a1, a2, a3, a4, a5, a6, a7, a8, b1, b2, c1, c2, v1, v2, d1, d2, d3, d4, Bool.true_or, Bool.or_true, Bool.false_or, Bool.or_false, Bool.not_true, Bool.not_false, Bool.and_true, Bool.true_and, Bool.false_and, Bool.and_false, Bool.or_self, if_true, Bool.false_eq_true, if_false]
                                      rw [hr]
                                      refine PCall.intro (nt := 109) (rs := [.tmp 2]) Tryz.func64 rfl ⟨by kernel_rfl, by kernel_rfl, by kernel_rfl⟩ (by simp) ?_
                                      rintro ⟨P, w0, ok0, may, np, pblk⟩ rfl rfl
                                      repeat' (first | refine W.seq fun K hK => ?_ | refine W.block ?_ | ((first | refine wR ?_ | refine wD ?_ | refine W.skip ?_ | refine W.exit ?_ | refine W.ret (Post.ret ?_) | refine aP ?_ | refine aF ?_); simp only [go_sem, reduceCtorEq, he, mxI, mnI, a1, a2, a3, a4, a5, a6, a7, a8, b1, b2, c1, c2, v1, v2, d1, d2, d3, d4, hw]) | refine wT ?_ | refine wF ?_ | refine wC (fun h => ?_) (fun h => ?_) | refine iK ?_ | refine aI2 ?_ | (refine hK _ ?_; clear hK K) | clear hK K)
                                    | false =>
                                      have hr : chkS s = orL [attsE s.ats, lnksE s.lks] := by simp only [chkS, ckId, ckNm, emB, a1, a2, a3, a4, a5, a6, a7, a8, b1, b2, c1, c2, v1, v2, d1, d2, d3, d4, Bool.true_or, Bool.or_true, Bool.false_or, Bool.or_false, Bool.not_true, Bool.not_false, Bool.and_true, Bool.true_and, Bool.false_and, Bool.and_false, Bool.or_self, if_true, Bool.false_eq_true, if_false]
                                      rw [hr]
                                      refine PCall.intro (nt := 109) (rs := [.tmp 2]) Tryz.func64 rfl ⟨by kernel_rfl, by kernel_rfl, by kernel_rfl⟩ (by simp) ?_
                                      rintro ⟨P, w0, ok0, may, np, pblk⟩ rfl rfl
                                      repeat' (first | refine W.seq fun K hK => ?_ | refine W.block ?_ | ((first | refine wR ?_ | refine wD ?_ | refine W.skip ?_ | refine W.exit ?_ | refine W.ret (Post.ret ?_) | refine aP ?_ | refine aF ?_); simp only [go_sem, reduceCtorEq, he, mxI, mnI, a1, a2, a3, a4, a5, a6, a7, a8, b1, b2, c1, c2, v1, v2, d1, d2, d3, d4, hw]) | refine wT ?_ | refine wF ?_ | refine wC (fun h => ?_) (fun h => ?_) | refine iK ?_ | refine aI2 ?_ | (refine hK _ ?_; clear hK K) | clear hK K)
end Go.Proofs.YtigenjeealkdlaaGreat
