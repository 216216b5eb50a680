import Derived.Test.YtegcmciglakicaaTn
namespace Go.Proofs.Ytegcmciglakicaa
open Go.RowKit Go.Exe
set_option linter.unusedVariables false
set_option linter.unusedSimpArgs false
set_option maxHeartbeats 1000000
set_option maxRecDepth 100000

def bA (b : Nat) : List AV := [.flat (.int .u8 (b : Nat))]
def svc (b : Nat) : ByteArray := if b % 3 = 0 then ⟨#[97]⟩ else if b % 3 = 1 then ⟨#[98]⟩ else ⟨#[97, 98]⟩
def opn (b : Nat) : ByteArray := if b / 12 % 2 = 0 then ⟨#[103, 101, 116]⟩ else ⟨#[112, 117, 116]⟩
mutual
def growF : Nat → List Nat → Shp × List Nat
  | 0, p => (.mk .empty .empty [], p)
  | _ + 1, [] => (.mk .empty .empty [], [])
  | f + 1, b :: r => (.mk (svc b) (opn b) (kidsF f (b / 3 % 4) r).1, (kidsF f (b / 3 % 4) r).2)
termination_by f _ => (f, 0)
def kidsF : Nat → Nat → List Nat → List Shp × List Nat
  | _, 0, l => ([], l)
  | _, _ + 1, [] => ([], [])
  | f, n + 1, b :: r => ((growF f (b :: r)).1 :: (kidsF f n (growF f (b :: r)).2).1, (kidsF f n (growF f (b :: r)).2).2)
termination_by f n _ => (f, n + 1)
end
def planT (p : List Nat) : TV := .c (.im (.sl 5 (p.map bA)))
mutual
theorem growF_suf : ∀ (f : Nat) (p : List Nat), (growF f p).2 <:+ p
  | 0, p => by simp [growF]
  | f + 1, [] => by simp [growF]
  | f + 1, b :: r => by
    simp only [growF]
    exact List.IsSuffix.trans (kidsF_suf f _ r) (List.suffix_cons b r)
termination_by f _ => (f, 0)
theorem kidsF_suf : ∀ (f n : Nat) (p : List Nat), (kidsF f n p).2 <:+ p
  | _, 0, l => by simp [kidsF]
  | _, _ + 1, [] => by simp [kidsF]
  | f, n + 1, b :: r => by
    simp only [kidsF]
    exact List.IsSuffix.trans (kidsF_suf f n _) (growF_suf f (b :: r))
termination_by f n _ => (f, n + 1)
end
theorem grow_c (f : Nat) (b : Nat) (r : List Nat) (hb : b < 256) (hr : ∀ x ∈ r, x < 256)
    (ih : ∀ p : List Nat, p.length ≤ r.length → (∀ x ∈ p, x < 256) → PCall Try.prog 33 [planT p] (.t [(true, (growF f p).1.av.map .im), (false, [.im (.sl 5 ((growF f p).2.map bA))])])) :
    PCall Try.prog 33 [planT (b :: r)] (.t [(true, (growF (f + 1) (b :: r)).1.av.map .im), (false, [.im (.sl 5 ((growF (f + 1) (b :: r)).2.map bA))])]) := by
  simp only [planT, List.map, bA]
  have e0 : ((((r.length + 1 : Nat) : Int)) == 0) = false := by simp; omega
  have q1 : Int.tmod (b : Int) 3 = ((b % 3 : Nat) : Int) := by rw [Int.tmod_eq_emod_of_nonneg (by omega)]; omega
  have q2 : IntKind.u8.wrap (Int.tdiv (b : Int) 12) = ((b / 12 : Nat) : Int) := by
    rw [Int.tdiv_eq_ediv_of_nonneg (by omega), IntKind.wrap_u8]; omega
  have q3 : Int.tmod ((b / 12 : Nat) : Int) 2 = ((b / 12 % 2 : Nat) : Int) := by rw [Int.tmod_eq_emod_of_nonneg (by omega)]; omega
  have q4 : IntKind.u8.wrap (Int.tdiv (b : Int) 3) = ((b / 3 : Nat) : Int) := by
    rw [Int.tdiv_eq_ediv_of_nonneg (by omega), IntKind.wrap_u8]; omega
  have q5 : Int.tmod ((b / 3 : Nat) : Int) 4 = ((b / 3 % 4 : Nat) : Int) := by rw [Int.tmod_eq_emod_of_nonneg (by omega)]; omega
  have q6 : IntKind.i64.wrap ((b / 3 % 4 : Nat) : Int) = ((b / 3 % 4 : Nat) : Int) := w64 (by omega) (by omega)
  have d1 : decide (b % 3 < 3) = true := by simp; omega
  have d2 : decide (b / 12 % 2 < 2) = true := by simp; omega
  have s1 : ([[.im (.flat (.string ⟨#[97]⟩))], [.im (.flat (.string ⟨#[98]⟩))], [.im (.flat (.string ⟨#[97, 98]⟩))]] : List (List Cell))[b % 3]? = some [.im (.flat (.string (svc b)))] := by
    unfold svc
    rcases (by omega : b % 3 = 0 ∨ b % 3 = 1 ∨ b % 3 = 2) with h | h | h <;> simp [h]
  have s2 : ([[.im (.flat (.string ⟨#[103, 101, 116]⟩))], [.im (.flat (.string ⟨#[112, 117, 116]⟩))]] : List (List Cell))[b / 12 % 2]? = some [.im (.flat (.string (opn b)))] := by
    unfold opn
    rcases (by omega : b / 12 % 2 = 0 ∨ b / 12 % 2 = 1) with h | h <;> simp [h]
  refine PCall.intro (nt := 61) (rs := [.cell 2 27, .tmp 3]) Try.func33 rfl ⟨by kernel_rfl, by kernel_rfl, by kernel_rfl⟩ (by simp) ?_
  rintro ⟨P, w0, ok0, may, np, pblk⟩ rfl rfl
  have t1 : List.take r.length (List.map bA r) = List.map bA r := List.take_of_length_le (by simp)
  have t2 : Int.toNat 1 = 1 := rfl
  refine W.lenIm 0 rfl fun hlen => ?_
  rw [maxLen_is] at hlen
  simp only [List.length_cons, List.length_map] at hlen
  repeat' (first
    | (refine W.ret (Post.ret ?_); simp only [go_sem, e0, q1, q2, q3, q4, q5, q6, d1, d2, s1, s2, t1, t2])
    | (refine W.exit ?_; simp only [go_sem])
    | (refine W.skip ?_; simp only [go_sem])
    | refine W.block ?_
    | (refine W.reg rfl ?_; simp only [go_sem, e0, q1, q2, q3, q4, q5, q6, d1, d2, s1, s2, t1, t2])
    | (refine W.regD Try_mo rfl rfl ?_; simp only [go_sem, e0, q1, q2, q3, q4, q5, q6, d1, d2, s1, s2, t1, t2])
    | (refine W.seq fun K hK => ?_)
    | (refine AX.pcall rfl rfl rfl (by solve_by_elim) rfl rfl ?_; simp only [go_sem, e0, q1, q2, q3, q4, q5, q6, d1, d2, s1, s2, t1, t2])
    | (refine AX.pcallF rfl rfl rfl rfl (by solve_by_elim) rfl rfl ?_; simp only [go_sem, e0, q1, q2, q3, q4, q5, q6, d1, d2, s1, s2, t1, t2])
    | refine W.condT rfl ?_
    | refine W.condF rfl ?_
    | refine W.cond rfl (fun h => ?_) (fun h => ?_)
    | (refine hK _ ?_; clear hK K)
    | (clear hK K; refine hK _ ?_; clear hK K)
    | (clear hK K; clear hK K; refine hK _ ?_; clear hK K)
    | (clear hK K; clear hK K; clear hK K; refine hK _ ?_; clear hK K)
    | refine And.intro (by first | rfl | omega | assumption | (simp; omega)) ?_
    | fail)
  generalize hn : b / 3 % 4 = n
  have hn4 : n < 4 := by omega
  refine W.loopF (T := fun x : Nat × List Shp × List Nat => { t := [(2, .c (.ptr 0 0)), (3, fl (.slice none 0 0) |> .c), (4, .c (.ptr 1 0)), (5, ft (.int .i64 (n : Nat))), (6, .c (.im (.sl 5 (x.2.2.map bA)))), (7, ft (.int .i64 (x.1 : Nat)))], h := [(0, .box 27 [fl (.string .empty), fl (.string .empty), fl (.slice none 0 0)]), (1, .box 27 [fl (.string (svc b)), fl (.string (opn b)), .ref 2]), (2, .row 27 (imR (x.2.1.map Shp.av)))], nx := 3, ex := [], nt := 61 })
    (Inv := fun x => x.1 ≤ n ∧ x.2.1.length = x.1 ∧ x.2.2 <:+ r ∧ kidsF f n r = (x.2.1 ++ (kidsF f (n - x.1) x.2.2).1, (kidsF f (n - x.1) x.2.2).2)) (μ := fun x => n - x.1) (x0 := (0, [], r)) (Fits.fit [(0, 0), (21, 1)] [2, 3, 4, 5, 6, 7] 2 rfl rfl ?_) ⟨Nat.zero_le _, rfl, List.suffix_refl _, by simp⟩ ?_
  · simp only [go_sem]
    refine Fits.adoptB 1 27 _ 2 2 27 rfl rfl rfl rfl tE27 rfl ?_
    simp only [go_sem]
    refine Fits.fit [(0, 0), (1, 1), (2, 2)] [2, 3, 4, 5, 6, 7] 3 rfl rfl ?_
    simp only [go_sem, hn, List.map_nil]
    exact Fits.rfl
  rintro ⟨i, acc, left⟩ ⟨hi, hal, hsuf, hinv⟩ KL hKL
  simp only at hi hal hsuf hinv ⊢
  have hll := hsuf.length_le
  by_cases hlt : i < n
  rotate_left
  · have e1 : decide ((i : Int) < n) = false := by simp; omega
    clear hKL
    repeat' (first
      | (refine W.ret (Post.ret ?_); simp only [go_sem, e1])
      | (refine W.exit ?_; simp only [go_sem])
      | (refine W.skip ?_; simp only [go_sem])
      | refine W.block ?_
      | (refine W.reg rfl ?_; simp only [go_sem, e1])
      | (refine W.regD Try_mo rfl rfl ?_; simp only [go_sem, e1])
      | (refine W.seq fun K hK => ?_)
      | (refine AX.pcall rfl rfl rfl (by solve_by_elim) rfl rfl ?_; simp only [go_sem, e1])
      | (refine AX.pcallF rfl rfl rfl rfl (by solve_by_elim) rfl rfl ?_; simp only [go_sem, e1])
      | refine W.condT rfl ?_
      | refine W.condF rfl ?_
      | refine W.cond rfl (fun h => ?_) (fun h => ?_)
      | (refine hK _ ?_; clear hK K)
      | (clear hK K; refine hK _ ?_; clear hK K)
      | (clear hK K; clear hK K; refine hK _ ?_; clear hK K)
      | (clear hK K; clear hK K; clear hK K; refine hK _ ?_; clear hK K)
      | refine And.intro (by first | rfl | omega | assumption | (simp; omega)) ?_
      | fail)
    have h0 : n - i = 0 := by omega
    rw [h0] at hinv
    simp only [kidsF, List.append_nil] at hinv
    simp [growF, hn, hinv, Shp.av, avs_map]
  have e1 : decide ((i : Int) < n) = true := by simp; omega
  have hw := w64s i (by omega)
  match left, hsuf, hinv, hll with
  | [], hsuf, hinv, hll =>
    have e2 : decide (((0 : Nat) : Int) > 0) = false := by simp
    clear hKL
    repeat' (first
      | (refine W.ret (Post.ret ?_); simp only [go_sem, e1, e2])
      | (refine W.exit ?_; simp only [go_sem])
      | (refine W.skip ?_; simp only [go_sem])
      | refine W.block ?_
      | (refine W.reg rfl ?_; simp only [go_sem, e1, e2])
      | (refine W.regD Try_mo rfl rfl ?_; simp only [go_sem, e1, e2])
      | (refine W.seq fun K hK => ?_)
      | (refine AX.pcall rfl rfl rfl (by solve_by_elim) rfl rfl ?_; simp only [go_sem, e1, e2])
      | (refine AX.pcallF rfl rfl rfl rfl (by solve_by_elim) rfl rfl ?_; simp only [go_sem, e1, e2])
      | refine W.condT rfl ?_
      | refine W.condF rfl ?_
      | refine W.cond rfl (fun h => ?_) (fun h => ?_)
      | (refine hK _ ?_; clear hK K)
      | (clear hK K; refine hK _ ?_; clear hK K)
      | (clear hK K; clear hK K; refine hK _ ?_; clear hK K)
      | (clear hK K; clear hK K; clear hK K; refine hK _ ?_; clear hK K)
      | refine And.intro (by first | rfl | omega | assumption | (simp; omega)) ?_
      | fail)
    obtain ⟨m, hm⟩ : ∃ m, n - i = m + 1 := ⟨n - i - 1, by omega⟩
    rw [hm] at hinv
    simp only [kidsF, List.append_nil] at hinv
    simp [growF, hn, hinv, Shp.av, avs_map]
  | c :: l, hsuf, hinv, hll =>
    have e2 : decide (((l.length + 1 : Nat) : Int) > 0) = true := by simp
    have hc := ih (c :: l) hll (fun x hx => hr x (hsuf.subset hx))
    generalize hg : growF f (c :: l) = g at hc
    obtain ⟨⟨sv, ov, kv⟩, l'⟩ := g
    simp only [planT, List.map, Shp.av] at hc
    have hs2 := growF_suf f (c :: l)
    rw [hg] at hs2
    obtain ⟨m, hm⟩ : ∃ m, n - i = m + 1 := ⟨n - i - 1, by omega⟩
    have hm2 : n - (i + 1) = m := by omega
    rw [hm] at hinv
    simp only [kidsF, hg] at hinv
    repeat' (first
      | (refine W.ret (Post.ret ?_); simp only [go_sem, e1, e2, hw, List.map])
      | (refine W.exit ?_; simp only [go_sem])
      | (refine W.skip ?_; simp only [go_sem])
      | refine W.block ?_
      | (refine W.reg rfl ?_; simp only [go_sem, e1, e2, hw, List.map])
      | (refine W.regD Try_mo rfl rfl ?_; simp only [go_sem, e1, e2, hw, List.map])
      | (refine W.seq fun K hK => ?_)
      | (refine AX.pcall rfl rfl rfl (by solve_by_elim) rfl rfl ?_; simp only [go_sem, e1, e2, hw, List.map])
      | (refine AX.pcallF rfl rfl rfl rfl (by solve_by_elim) rfl rfl ?_; simp only [go_sem, e1, e2, hw, List.map])
      | refine W.condT rfl ?_
      | refine W.condF rfl ?_
      | refine W.cond rfl (fun h => ?_) (fun h => ?_)
      | (refine hK _ ?_; clear hK K)
      | (clear hK K; refine hK _ ?_; clear hK K)
      | (clear hK K; clear hK K; refine hK _ ?_; clear hK K)
      | (clear hK K; clear hK K; clear hK K; refine hK _ ?_; clear hK K)
      | refine And.intro (by first | rfl | omega | assumption | (simp; omega)) ?_
      | fail)
    refine hKL.to (i + 1, acc ++ [.mk sv ov kv], l') ⟨by simp only; omega, by simp [hal], hs2.trans hsuf, by simp only [hm2, hinv]; simp⟩ (by simp only; omega) (Fits.fit [(0, 0), (1, 1), (23, 2)] [2, 3, 4, 5, 6, 7] 3 rfl rfl ?_)
    simp only [go_sem, List.map_append, List.map_cons, List.map_nil, imR_app, imR_one, imL, Shp.av]
    exact Fits.rfl
end Go.Proofs.Ytegcmciglakicaa
