import Derived.Test.YtegcmciglakicaaM2
import Derived.Test.YtegcmciglakicaaM3
namespace Go.Proofs.Ytegcmciglakicaa
open Go.RowKit Go.Exe
set_option linter.unusedVariables false
set_option linter.unusedSimpArgs false
set_option maxHeartbeats 1000000
set_option maxRecDepth 100000
attribute [local irreducible] W AX Run RunD AStep AOp AOpX AStB AStH AStG Fits PCall GCall PostG Post Stop

theorem u64_neg {n : Int} (h1 : -9223372036854775808 ≤ n) (h2 : n < 0) : IntKind.u64.wrap (0 - IntKind.u64.wrap n) = ((n.natAbs : Nat) : Int) := by
  rw [IntKind.wrap_u64, IntKind.wrap_u64]; omega
theorem u64_pos {n : Int} (h1 : 0 ≤ n) (h2 : n < 9223372036854775808) : IntKind.u64.wrap n = ((n.natAbs : Nat) : Int) := by
  rw [IntKind.wrap_u64]; omega
theorem magnitude_c (n : Int) (h1 : -9223372036854775808 ≤ n) (h2 : n < 9223372036854775808) : PCall Try.prog 59 [ft (.int .i64 n)] (ft (.int .u64 ((n.natAbs : Nat) : Int))) := by
  refine PCall.intro (nt := 10) (rs := [.tmp 2]) Try.func59 rfl ⟨by kernel_rfl, by kernel_rfl, by kernel_rfl⟩ (by simp) ?_
  rintro ⟨P, w0, ok0, may, np, pblk⟩ rfl rfl
  by_cases h : n < 0
  · have e1 : decide (n < 0) = true := by simp [h]
    have e2 := u64_neg h1 h
    repeat' (first
      | ((show W _ _ _ _); first | (refine W.seq fun K hK => ?_) | refine W.block ?_ | (refine W.reg rfl ?_; simp only [go_sem, reduceCtorEq, e1, e2]) | (refine W.regD Try_mo rfl rfl ?_; simp only [go_sem, reduceCtorEq, e1, e2]) | (refine W.skip ?_; simp only [go_sem]) | (refine W.exit ?_; simp only [go_sem]) | (refine W.ret (Post.ret ?_); simp only [go_sem, reduceCtorEq, e1, e2]) | refine W.condT rfl ?_ | refine W.condF rfl ?_ | refine W.cond rfl (fun h => ?_) (fun h => ?_))
      | ((show AX _ _ _ _ _); first | (refine AX.pcall rfl rfl (by simp only [go_sem, unim_im]; rfl) (by solve_by_elim) rfl rfl ?_; simp only [go_sem, reduceCtorEq, e1, e2]) | (refine AX.pcallF rfl rfl (by simp only [go_sem, unim_im]; rfl) (by simp only [go_sem, unim_im]; rfl) (by solve_by_elim) rfl rfl ?_; simp only [go_sem, reduceCtorEq, e1, e2]) | (refine AX.lookup rfl (by first | exact tM65 | exact tM66) (by first | exact tG2 | exact tG3 | exact tG4 | exact tG5 | exact tG7 | exact tG9 | exact tG12 | exact tG13 | exact tG18 | exact tG19 | exact tG20 | exact tG21 | exact tG22 | exact tG23 | exact tG25 | exact tG26 | exact tG27 | exact tG34 | exact tG36 | exact tG37 | exact tG38 | exact tG46 | exact tG49 | exact tG50 | exact tG51 | exact tG58 | exact tG59 | exact tG65 | exact tG66 | exact tG69 | exact tG70 | exact tG72 | exact tG74 | exact tG75 | exact tG79 | exact tG80 | exact tG87 | exact tG90 | exact tG95 | exact tG96 | exact tG100 | exact tG103 | exact tG111 | exact tG117 | exact tG121 | exact tG128 | exact tG134 | exact tG142 | exact tG145 | exact tG148) (by first | exact kd9) rfl rfl rfl (by assumption) rfl ?_; simp only [go_sem, reduceCtorEq, e1, e2]) | (refine AX.mapUpdate rfl rfl (by first | exact tM65 | exact tM66) (by first | exact kd9) rfl rfl rfl (by assumption) rfl (by simp only [go_sem, reduceCtorEq, e1, e2]) ?_; simp only [go_sem, reduceCtorEq, e1, e2]) | (refine AX.makeMap rfl (by first | exact tM65 | exact tM66) rfl ?_; simp only [go_sem, reduceCtorEq, e1, e2]) | (refine AX.lenMap rfl (by first | exact tM65 | exact tM66) rfl rfl rfl ?_; simp only [go_sem, reduceCtorEq, e1, e2]) | (refine AX.range rfl (by first | exact tM65 | exact tM66) rfl rfl rfl ?_; simp only [go_sem, reduceCtorEq, e1, e2]) | (refine AX.appendStr rfl (by first | exact tL22 | exact tL23 | exact tL25 | exact tL34 | exact tL36 | exact tL50 | exact tL100) (by simp only [go_sem]) (by simp only [go_sem]) (by simp only [go_sem]) rfl rfl rfl rfl (by simp only [go_sem, reduceCtorEq, e1, e2]; first | omega | (simp; omega)) ?_; simp only [go_sem, reduceCtorEq, e1, e2]) | (refine AX.shr rfl rfl rfl rfl (by first | decide | omega) ?_; simp only [go_sem, reduceCtorEq, e1, e2]) | (refine AX.shl rfl rfl rfl rfl (by first | decide | omega) ?_; simp only [go_sem, reduceCtorEq, e1, e2]) | (refine AX.bits rfl rfl rfl (by assumption) rfl ?_; simp only [go_sem, reduceCtorEq, e1, e2]) | (refine AX.nilSl rfl (by first | exact tL22 | exact tL23 | exact tL25 | exact tL34 | exact tL36 | exact tL50 | exact tL100) (by first | exact .inl rfl | exact .inr rfl) rfl rfl rfl ?_; simp only [go_sem, reduceCtorEq, e1, e2]))
      | ((show indepK _ _ _ _ = true ∧ _); refine And.intro (by kernel_rfl) ?_)
      | ((show _ ∧ _); refine And.intro (by first | omega | assumption | (simp only [go_sem]; omega) | (simp; omega) | (simp; done)) ?_)
      | (refine hK _ ?_; clear hK K)
      | (clear hK K; refine hK _ ?_; clear hK K)
      | (clear hK K; clear hK K; refine hK _ ?_; clear hK K)
      | (clear hK K; clear hK K; clear hK K; refine hK _ ?_; clear hK K)
      | fail)
  · have e1 : decide (n < 0) = false := by simp [h]
    have e2 := u64_pos (by omega) h2
    repeat' (first
      | ((show W _ _ _ _); first | (refine W.seq fun K hK => ?_) | refine W.block ?_ | (refine W.reg rfl ?_; simp only [go_sem, reduceCtorEq, e1, e2]) | (refine W.regD Try_mo rfl rfl ?_; simp only [go_sem, reduceCtorEq, e1, e2]) | (refine W.skip ?_; simp only [go_sem]) | (refine W.exit ?_; simp only [go_sem]) | (refine W.ret (Post.ret ?_); simp only [go_sem, reduceCtorEq, e1, e2]) | refine W.condT rfl ?_ | refine W.condF rfl ?_ | refine W.cond rfl (fun h => ?_) (fun h => ?_))
      | ((show AX _ _ _ _ _); first | (refine AX.pcall rfl rfl (by simp only [go_sem, unim_im]; rfl) (by solve_by_elim) rfl rfl ?_; simp only [go_sem, reduceCtorEq, e1, e2]) | (refine AX.pcallF rfl rfl (by simp only [go_sem, unim_im]; rfl) (by simp only [go_sem, unim_im]; rfl) (by solve_by_elim) rfl rfl ?_; simp only [go_sem, reduceCtorEq, e1, e2]) | (refine AX.lookup rfl (by first | exact tM65 | exact tM66) (by first | exact tG2 | exact tG3 | exact tG4 | exact tG5 | exact tG7 | exact tG9 | exact tG12 | exact tG13 | exact tG18 | exact tG19 | exact tG20 | exact tG21 | exact tG22 | exact tG23 | exact tG25 | exact tG26 | exact tG27 | exact tG34 | exact tG36 | exact tG37 | exact tG38 | exact tG46 | exact tG49 | exact tG50 | exact tG51 | exact tG58 | exact tG59 | exact tG65 | exact tG66 | exact tG69 | exact tG70 | exact tG72 | exact tG74 | exact tG75 | exact tG79 | exact tG80 | exact tG87 | exact tG90 | exact tG95 | exact tG96 | exact tG100 | exact tG103 | exact tG111 | exact tG117 | exact tG121 | exact tG128 | exact tG134 | exact tG142 | exact tG145 | exact tG148) (by first | exact kd9) rfl rfl rfl (by assumption) rfl ?_; simp only [go_sem, reduceCtorEq, e1, e2]) | (refine AX.mapUpdate rfl rfl (by first | exact tM65 | exact tM66) (by first | exact kd9) rfl rfl rfl (by assumption) rfl (by simp only [go_sem, reduceCtorEq, e1, e2]) ?_; simp only [go_sem, reduceCtorEq, e1, e2]) | (refine AX.makeMap rfl (by first | exact tM65 | exact tM66) rfl ?_; simp only [go_sem, reduceCtorEq, e1, e2]) | (refine AX.lenMap rfl (by first | exact tM65 | exact tM66) rfl rfl rfl ?_; simp only [go_sem, reduceCtorEq, e1, e2]) | (refine AX.range rfl (by first | exact tM65 | exact tM66) rfl rfl rfl ?_; simp only [go_sem, reduceCtorEq, e1, e2]) | (refine AX.appendStr rfl (by first | exact tL22 | exact tL23 | exact tL25 | exact tL34 | exact tL36 | exact tL50 | exact tL100) (by simp only [go_sem]) (by simp only [go_sem]) (by simp only [go_sem]) rfl rfl rfl rfl (by simp only [go_sem, reduceCtorEq, e1, e2]; first | omega | (simp; omega)) ?_; simp only [go_sem, reduceCtorEq, e1, e2]) | (refine AX.shr rfl rfl rfl rfl (by first | decide | omega) ?_; simp only [go_sem, reduceCtorEq, e1, e2]) | (refine AX.shl rfl rfl rfl rfl (by first | decide | omega) ?_; simp only [go_sem, reduceCtorEq, e1, e2]) | (refine AX.bits rfl rfl rfl (by assumption) rfl ?_; simp only [go_sem, reduceCtorEq, e1, e2]) | (refine AX.nilSl rfl (by first | exact tL22 | exact tL23 | exact tL25 | exact tL34 | exact tL36 | exact tL50 | exact tL100) (by first | exact .inl rfl | exact .inr rfl) rfl rfl rfl ?_; simp only [go_sem, reduceCtorEq, e1, e2]))
      | ((show indepK _ _ _ _ = true ∧ _); refine And.intro (by kernel_rfl) ?_)
      | ((show _ ∧ _); refine And.intro (by first | omega | assumption | (simp only [go_sem]; omega) | (simp; omega) | (simp; done)) ?_)
      | (refine hK _ ?_; clear hK K)
      | (clear hK K; refine hK _ ?_; clear hK K)
      | (clear hK K; clear hK K; refine hK _ ?_; clear hK K)
      | (clear hK K; clear hK K; clear hK K; refine hK _ ?_; clear hK K)
      | fail)

/-- How many bytes a magnitude has. -/
def nsize (m : Nat) : Nat := if m = 0 then 0 else 1 + nsize (m / 256)
decreasing_by omega
theorem nsize_0 : nsize 0 = 0 := by unfold nsize; rfl
theorem nsize_s {m : Nat} (h : 0 < m) : nsize m = 1 + nsize (m / 256) := by
  rw [nsize]; rw [if_neg (by omega)]
theorem nsize_le : ∀ (k m : Nat), m < 256 ^ k → nsize m ≤ k
  | 0, m, h => by simp at h; subst h; rw [nsize_0]; exact Nat.le_refl _
  | k + 1, m, h => by
    by_cases h0 : m = 0
    · subst h0; rw [nsize_0]; exact Nat.zero_le _
    · rw [nsize_s (by omega)]
      have := nsize_le k (m / 256) (by rw [Nat.pow_succ] at h; omega)
      omega
/-- A byte of a number's form. -/
def nbyte (m i : Nat) (neg : Bool) : Nat := if neg then 255 - m / 256 ^ i % 256 else m / 256 ^ i % 256
theorem nbyte_lt (m i : Nat) (neg : Bool) : nbyte m i neg < 256 := by unfold nbyte; split <;> omega
def nhead (m : Nat) (neg : Bool) : Nat := if neg then 128 - nsize m else 128 + nsize m
def numB (n : Int) : List UInt8 := UInt8.ofNat (nhead n.natAbs (decide (n < 0))) :: (List.range (nsize n.natAbs)).map fun j => UInt8.ofNat (nbyte n.natAbs (nsize n.natAbs - 1 - j) (decide (n < 0)))
theorem u8n {x : Nat} (h : x < 256) : (((UInt8.ofNat x).toNat : Nat) : Int) = (x : Int) := by
  rw [UInt8.toNat_ofNat_of_lt' (by simpa [UInt8.size] using h)]
theorem u8v {v : Int} {x : Nat} (h : x < 256) (e : v = (x : Int)) : v = (((UInt8.ofNat x).toNat : Nat) : Int) := by rw [u8n h, e]
theorem bsA_cons (b : UInt8) (l : List UInt8) : bsA (b :: l) = [.flat (.int .u8 (b.toNat : Int))] :: bsA l := rfl
theorem bsA_nil : bsA [] = [] := rfl
theorem imR_cons (x : List AV) (l : List (List AV)) : imR (x :: l) = imL x :: imR l := rfl
theorem imR_nil : imR [] = [] := rfl
theorem bsA_one (b : UInt8) : bsA [b] = [[.flat (.int .u8 (b.toNat : Int))]] := rfl
theorem shr8 (m i : Nat) (hi : i < 8) (hm : m < 18446744073709551616) : Int.fdiv (m : Int) (2 ^ (min (8 * (i : Int)).toNat 64)) = ((m / 256 ^ i : Nat) : Int) := by
  have e1 : (8 * (i : Int)).toNat = 8 * i := by omega
  rw [e1, Nat.min_eq_left (by omega)]
  have e2 : (2 : Int) ^ (8 * i) = ((256 ^ i : Nat) : Int) := by
    rw [Int.pow_mul, Int.natCast_pow]; rfl
  rw [e2, Int.fdiv_eq_ediv_of_nonneg _ (Int.natCast_nonneg _)]
  rfl
theorem bits0 (x : Nat) (h : x < 256) : bitsV .xor .u8 (x : Int) 0 = some (x : Int) := by
  have : ∀ x : Fin 256, bitsV .xor .u8 ((x.1 : Nat) : Int) 0 = some ((x.1 : Nat) : Int) := by decide +kernel
  exact this ⟨x, h⟩
theorem bits255 (x : Nat) (h : x < 256) : bitsV .xor .u8 (x : Int) 255 = some ((255 - x : Nat) : Int) := by
  have : ∀ x : Fin 256, bitsV .xor .u8 ((x.1 : Nat) : Int) 255 = some ((255 - x.1 : Nat) : Int) := by decide +kernel
  exact this ⟨x, h⟩
theorem number_c (l : List UInt8) (n : Int) (h1 : -9223372036854775808 ≤ n) (h2 : n < 9223372036854775808) (hl : l.length + 9 ≤ 140737488355328) :
    GCall Try.prog 44 1 (St.g [.c (.ptr 0 0), ft (.int .i64 n)] [(0, .box 70 [.ref 1]), (1, .row 5 (imR (bsA l)))] 2) (St.r (.t []) [(0, .box 70 [.ref 1]), (1, .row 5 (imR (bsA (l ++ numB n))))] 2) := by
  have c59 := magnitude_c n h1 h2
  generalize hm : n.natAbs = m at c59
  have hm64 : m < 18446744073709551616 := by omega
  have hsz : nsize m ≤ 8 := nsize_le 8 m (by omega)
  have hnum : numB n = UInt8.ofNat (nhead m (decide (n < 0))) :: (List.range (nsize m)).map fun j => UInt8.ofNat (nbyte m (nsize m - 1 - j) (decide (n < 0))) := by rw [numB, hm]
  rw [hnum]
  generalize hneg : decide (n < 0) = neg
  refine GCall.introG (nt := 68) (rs := []) Try.func44 rfl ⟨by kernel_rfl, by kernel_rfl, by kernel_rfl⟩ (by simp) ?_
  rintro ⟨P, w0, ok0, may, np, pblk⟩ rfl rfl
  simp only [go_sem]
  repeat' (first
    | ((show W _ _ _ _); first | (refine W.seq fun K hK => ?_) | refine W.block ?_ | (refine W.reg rfl ?_; simp only [go_sem, reduceCtorEq]) | (refine W.regD Try_mo rfl rfl ?_; simp only [go_sem, reduceCtorEq]) | (refine W.skip ?_; simp only [go_sem]) | (refine W.exit ?_; simp only [go_sem]) | (refine W.ret (Post.ret ?_); simp only [go_sem, reduceCtorEq]) | refine W.condT rfl ?_ | refine W.condF rfl ?_ | refine W.cond rfl (fun h => ?_) (fun h => ?_))
    | ((show AX _ _ _ _ _); first | (refine AX.pcall rfl rfl (by simp only [go_sem, unim_im]; rfl) (by solve_by_elim) rfl rfl ?_; simp only [go_sem, reduceCtorEq]) | (refine AX.pcallF rfl rfl (by simp only [go_sem, unim_im]; rfl) (by simp only [go_sem, unim_im]; rfl) (by solve_by_elim) rfl rfl ?_; simp only [go_sem, reduceCtorEq]) | (refine AX.lookup rfl (by first | exact tM65 | exact tM66) (by first | exact tG2 | exact tG3 | exact tG4 | exact tG5 | exact tG7 | exact tG9 | exact tG12 | exact tG13 | exact tG18 | exact tG19 | exact tG20 | exact tG21 | exact tG22 | exact tG23 | exact tG25 | exact tG26 | exact tG27 | exact tG34 | exact tG36 | exact tG37 | exact tG38 | exact tG46 | exact tG49 | exact tG50 | exact tG51 | exact tG58 | exact tG59 | exact tG65 | exact tG66 | exact tG69 | exact tG70 | exact tG72 | exact tG74 | exact tG75 | exact tG79 | exact tG80 | exact tG87 | exact tG90 | exact tG95 | exact tG96 | exact tG100 | exact tG103 | exact tG111 | exact tG117 | exact tG121 | exact tG128 | exact tG134 | exact tG142 | exact tG145 | exact tG148) (by first | exact kd9) rfl rfl rfl (by assumption) rfl ?_; simp only [go_sem, reduceCtorEq]) | (refine AX.mapUpdate rfl rfl (by first | exact tM65 | exact tM66) (by first | exact kd9) rfl rfl rfl (by assumption) rfl (by simp only [go_sem, reduceCtorEq]) ?_; simp only [go_sem, reduceCtorEq]) | (refine AX.makeMap rfl (by first | exact tM65 | exact tM66) rfl ?_; simp only [go_sem, reduceCtorEq]) | (refine AX.lenMap rfl (by first | exact tM65 | exact tM66) rfl rfl rfl ?_; simp only [go_sem, reduceCtorEq]) | (refine AX.range rfl (by first | exact tM65 | exact tM66) rfl rfl rfl ?_; simp only [go_sem, reduceCtorEq]) | (refine AX.appendStr rfl (by first | exact tL22 | exact tL23 | exact tL25 | exact tL34 | exact tL36 | exact tL50 | exact tL100) (by simp only [go_sem]) (by simp only [go_sem]) (by simp only [go_sem]) rfl rfl rfl rfl (by simp only [go_sem, reduceCtorEq]; first | omega | (simp; omega)) ?_; simp only [go_sem, reduceCtorEq]) | (refine AX.shr rfl rfl rfl rfl (by first | decide | omega) ?_; simp only [go_sem, reduceCtorEq]) | (refine AX.shl rfl rfl rfl rfl (by first | decide | omega) ?_; simp only [go_sem, reduceCtorEq]) | (refine AX.bits rfl rfl rfl (by assumption) rfl ?_; simp only [go_sem, reduceCtorEq]) | (refine AX.nilSl rfl (by first | exact tL22 | exact tL23 | exact tL25 | exact tL34 | exact tL36 | exact tL50 | exact tL100) (by first | exact .inl rfl | exact .inr rfl) rfl rfl rfl ?_; simp only [go_sem, reduceCtorEq]))
    | ((show indepK _ _ _ _ = true ∧ _); refine And.intro (by kernel_rfl) ?_)
    | ((show _ ∧ _); refine And.intro (by first | omega | assumption | (simp only [go_sem]; omega) | (simp; omega) | (simp; done)) ?_)
    | (refine hK _ ?_; clear hK K)
    | (clear hK K; refine hK _ ?_; clear hK K)
    | (clear hK K; clear hK K; refine hK _ ?_; clear hK K)
    | (clear hK K; clear hK K; clear hK K; refine hK _ ?_; clear hK K)
    | fail)
  -- how many bytes
  refine W.loopF (T := fun x : Nat × Nat => { t := [(0, .c (.ptr 0 0)), (1, ft (.int .i64 n)), (4, ft (.int .u64 (m : Int))), (5, ft (.int .i64 (x.1 : Int))), (6, ft (.int .u64 (x.2 : Int)))], h := [(0, .box 70 [.ref 1]), (1, .row 5 (imR (bsA l)))], nx := 2, ex := [], nt := 68 })
    (Inv := fun x => nsize m = x.1 + nsize x.2 ∧ x.2 < 18446744073709551616) (μ := fun x => x.2) (x0 := (0, m)) (Fits.fit [(0, 0), (1, 1)] [0, 1, 4, 5, 6] 2 rfl rfl ?_) ⟨by simp, hm64⟩ ?_
  · simp only [go_sem]
    exact Fits.rfl
  rintro ⟨i, x⟩ ⟨hi, hx⟩ KL hKL
  simp only at hi hx ⊢
  by_cases h0 : 0 < x
  · have e1 : decide ((x : Int) > 0) = true := by simp [h0]
    have e2 : IntKind.i64.wrap ((i : Int) + 1) = ((i + 1 : Nat) : Int) := w64s i (by omega)
    have e3 : Int.fdiv (x : Int) (2 ^ (min (Int.toNat 8) 64)) = ((x / 256 : Nat) : Int) := shr8 x 1 (by decide) hx
    have e4 := nsize_s h0
    repeat' (first
      | ((show W _ _ _ _); first | (refine W.seq fun K hK => ?_) | refine W.block ?_ | (refine W.reg rfl ?_; simp only [go_sem, reduceCtorEq, e1, e2, e3]) | (refine W.regD Try_mo rfl rfl ?_; simp only [go_sem, reduceCtorEq, e1, e2, e3]) | (refine W.skip ?_; simp only [go_sem]) | (refine W.exit ?_; simp only [go_sem]) | (refine W.ret (Post.ret ?_); simp only [go_sem, reduceCtorEq, e1, e2, e3]) | refine W.condT rfl ?_ | refine W.condF rfl ?_ | refine W.cond rfl (fun h => ?_) (fun h => ?_))
      | ((show AX _ _ _ _ _); first | (refine AX.pcall rfl rfl (by simp only [go_sem, unim_im]; rfl) (by solve_by_elim) rfl rfl ?_; simp only [go_sem, reduceCtorEq, e1, e2, e3]) | (refine AX.pcallF rfl rfl (by simp only [go_sem, unim_im]; rfl) (by simp only [go_sem, unim_im]; rfl) (by solve_by_elim) rfl rfl ?_; simp only [go_sem, reduceCtorEq, e1, e2, e3]) | (refine AX.lookup rfl (by first | exact tM65 | exact tM66) (by first | exact tG2 | exact tG3 | exact tG4 | exact tG5 | exact tG7 | exact tG9 | exact tG12 | exact tG13 | exact tG18 | exact tG19 | exact tG20 | exact tG21 | exact tG22 | exact tG23 | exact tG25 | exact tG26 | exact tG27 | exact tG34 | exact tG36 | exact tG37 | exact tG38 | exact tG46 | exact tG49 | exact tG50 | exact tG51 | exact tG58 | exact tG59 | exact tG65 | exact tG66 | exact tG69 | exact tG70 | exact tG72 | exact tG74 | exact tG75 | exact tG79 | exact tG80 | exact tG87 | exact tG90 | exact tG95 | exact tG96 | exact tG100 | exact tG103 | exact tG111 | exact tG117 | exact tG121 | exact tG128 | exact tG134 | exact tG142 | exact tG145 | exact tG148) (by first | exact kd9) rfl rfl rfl (by assumption) rfl ?_; simp only [go_sem, reduceCtorEq, e1, e2, e3]) | (refine AX.mapUpdate rfl rfl (by first | exact tM65 | exact tM66) (by first | exact kd9) rfl rfl rfl (by assumption) rfl (by simp only [go_sem, reduceCtorEq, e1, e2, e3]) ?_; simp only [go_sem, reduceCtorEq, e1, e2, e3]) | (refine AX.makeMap rfl (by first | exact tM65 | exact tM66) rfl ?_; simp only [go_sem, reduceCtorEq, e1, e2, e3]) | (refine AX.lenMap rfl (by first | exact tM65 | exact tM66) rfl rfl rfl ?_; simp only [go_sem, reduceCtorEq, e1, e2, e3]) | (refine AX.range rfl (by first | exact tM65 | exact tM66) rfl rfl rfl ?_; simp only [go_sem, reduceCtorEq, e1, e2, e3]) | (refine AX.appendStr rfl (by first | exact tL22 | exact tL23 | exact tL25 | exact tL34 | exact tL36 | exact tL50 | exact tL100) (by simp only [go_sem]) (by simp only [go_sem]) (by simp only [go_sem]) rfl rfl rfl rfl (by simp only [go_sem, reduceCtorEq, e1, e2, e3]; first | omega | (simp; omega)) ?_; simp only [go_sem, reduceCtorEq, e1, e2, e3]) | (refine AX.shr rfl rfl rfl rfl (by first | decide | omega) ?_; simp only [go_sem, reduceCtorEq, e1, e2, e3]) | (refine AX.shl rfl rfl rfl rfl (by first | decide | omega) ?_; simp only [go_sem, reduceCtorEq, e1, e2, e3]) | (refine AX.bits rfl rfl rfl (by assumption) rfl ?_; simp only [go_sem, reduceCtorEq, e1, e2, e3]) | (refine AX.nilSl rfl (by first | exact tL22 | exact tL23 | exact tL25 | exact tL34 | exact tL36 | exact tL50 | exact tL100) (by first | exact .inl rfl | exact .inr rfl) rfl rfl rfl ?_; simp only [go_sem, reduceCtorEq, e1, e2, e3]))
      | ((show indepK _ _ _ _ = true ∧ _); refine And.intro (by kernel_rfl) ?_)
      | ((show _ ∧ _); refine And.intro (by first | omega | assumption | (simp only [go_sem]; omega) | (simp; omega) | (simp; done)) ?_)
      | (refine hK _ ?_; clear hK K)
      | (clear hK K; refine hK _ ?_; clear hK K)
      | (clear hK K; clear hK K; refine hK _ ?_; clear hK K)
      | (clear hK K; clear hK K; clear hK K; refine hK _ ?_; clear hK K)
      | fail)
    refine hKL.to (i + 1, x / 256) ⟨by simp only; omega, by simp only; omega⟩ (by simp only; omega) (Fits.fit [(0, 0), (1, 1)] [0, 1, 4, 5, 6] 2 rfl rfl ?_)
    simp only [go_sem]
    exact Fits.rfl
  have e1 : decide ((x : Int) > 0) = false := by simp; omega
  obtain rfl : x = 0 := by omega
  rw [nsize_0, Nat.add_zero] at hi
  clear hKL
  have hhead : nhead m neg < 256 := by unfold nhead; split <;> omega
  have hsub : IntKind.i64.wrap ((i : Int) - 1) = (i : Int) - 1 := w64 (by omega) (by omega)
  cases neg
  · have hcond : decide (n < 0) = false := hneg
    have ehd : IntKind.u8.wrap (IntKind.i64.wrap (128 + (i : Int))) = (((UInt8.ofNat (nhead m false)).toNat : Nat) : Int) := by
      rw [w64 (by omega) (by omega), u8n hhead, IntKind.wrap_u8]
      simp only [nhead, hi, if_true, Bool.false_eq_true, if_false]
      omega
    repeat' (first
      | ((show W _ _ _ _); first | (refine W.seq fun K hK => ?_) | refine W.block ?_ | (refine W.reg rfl ?_; simp only [go_sem, reduceCtorEq, hcond, hsub, ehd, bsA_len]) | (refine W.regD Try_mo rfl rfl ?_; simp only [go_sem, reduceCtorEq, hcond, hsub, ehd, bsA_len]) | (refine W.skip ?_; simp only [go_sem]) | (refine W.exit ?_; simp only [go_sem]) | (refine W.ret (Post.ret ?_); simp only [go_sem, reduceCtorEq, hcond, hsub, ehd, bsA_len]) | refine W.condT rfl ?_ | refine W.condF rfl ?_ | refine W.cond rfl (fun h => ?_) (fun h => ?_))
      | ((show AX _ _ _ _ _); first | (refine AX.pcall rfl rfl (by simp only [go_sem, unim_im]; rfl) (by solve_by_elim) rfl rfl ?_; simp only [go_sem, reduceCtorEq, hcond, hsub, ehd, bsA_len]) | (refine AX.pcallF rfl rfl (by simp only [go_sem, unim_im]; rfl) (by simp only [go_sem, unim_im]; rfl) (by solve_by_elim) rfl rfl ?_; simp only [go_sem, reduceCtorEq, hcond, hsub, ehd, bsA_len]) | (refine AX.lookup rfl (by first | exact tM65 | exact tM66) (by first | exact tG2 | exact tG3 | exact tG4 | exact tG5 | exact tG7 | exact tG9 | exact tG12 | exact tG13 | exact tG18 | exact tG19 | exact tG20 | exact tG21 | exact tG22 | exact tG23 | exact tG25 | exact tG26 | exact tG27 | exact tG34 | exact tG36 | exact tG37 | exact tG38 | exact tG46 | exact tG49 | exact tG50 | exact tG51 | exact tG58 | exact tG59 | exact tG65 | exact tG66 | exact tG69 | exact tG70 | exact tG72 | exact tG74 | exact tG75 | exact tG79 | exact tG80 | exact tG87 | exact tG90 | exact tG95 | exact tG96 | exact tG100 | exact tG103 | exact tG111 | exact tG117 | exact tG121 | exact tG128 | exact tG134 | exact tG142 | exact tG145 | exact tG148) (by first | exact kd9) rfl rfl rfl (by assumption) rfl ?_; simp only [go_sem, reduceCtorEq, hcond, hsub, ehd, bsA_len]) | (refine AX.mapUpdate rfl rfl (by first | exact tM65 | exact tM66) (by first | exact kd9) rfl rfl rfl (by assumption) rfl (by simp only [go_sem, reduceCtorEq, hcond, hsub, ehd, bsA_len]) ?_; simp only [go_sem, reduceCtorEq, hcond, hsub, ehd, bsA_len]) | (refine AX.makeMap rfl (by first | exact tM65 | exact tM66) rfl ?_; simp only [go_sem, reduceCtorEq, hcond, hsub, ehd, bsA_len]) | (refine AX.lenMap rfl (by first | exact tM65 | exact tM66) rfl rfl rfl ?_; simp only [go_sem, reduceCtorEq, hcond, hsub, ehd, bsA_len]) | (refine AX.range rfl (by first | exact tM65 | exact tM66) rfl rfl rfl ?_; simp only [go_sem, reduceCtorEq, hcond, hsub, ehd, bsA_len]) | (refine AX.appendStr rfl (by first | exact tL22 | exact tL23 | exact tL25 | exact tL34 | exact tL36 | exact tL50 | exact tL100) (by simp only [go_sem]) (by simp only [go_sem]) (by simp only [go_sem]) rfl rfl rfl rfl (by simp only [go_sem, reduceCtorEq, hcond, hsub, ehd, bsA_len]; first | omega | (simp; omega)) ?_; simp only [go_sem, reduceCtorEq, hcond, hsub, ehd, bsA_len]) | (refine AX.shr rfl rfl rfl rfl (by first | decide | omega) ?_; simp only [go_sem, reduceCtorEq, hcond, hsub, ehd, bsA_len]) | (refine AX.shl rfl rfl rfl rfl (by first | decide | omega) ?_; simp only [go_sem, reduceCtorEq, hcond, hsub, ehd, bsA_len]) | (refine AX.bits rfl rfl rfl (by assumption) rfl ?_; simp only [go_sem, reduceCtorEq, hcond, hsub, ehd, bsA_len]) | (refine AX.nilSl rfl (by first | exact tL22 | exact tL23 | exact tL25 | exact tL34 | exact tL36 | exact tL50 | exact tL100) (by first | exact .inl rfl | exact .inr rfl) rfl rfl rfl ?_; simp only [go_sem, reduceCtorEq, hcond, hsub, ehd, bsA_len]))
      | ((show indepK _ _ _ _ = true ∧ _); refine And.intro (by kernel_rfl) ?_)
      | ((show _ ∧ _); refine And.intro (by first | omega | assumption | (simp only [go_sem]; omega) | (simp; omega) | (simp; done)) ?_)
      | (refine hK _ ?_; clear hK K)
      | (clear hK K; refine hK _ ?_; clear hK K)
      | (clear hK K; clear hK K; refine hK _ ?_; clear hK K)
      | (clear hK K; clear hK K; clear hK K; refine hK _ ?_; clear hK K)
      | fail)
    refine W.loopF (T := fun j : Nat => { t := [(0, .c (.ptr 0 0)), (4, ft (.int .u64 (m : Int))), (7, ft (.int .u8 0)), (8, ft (.int .i64 ((i : Int) - 1 - j)))], h := [(0, .box 70 [.ref 1]), (1, .row 5 (imR (bsA (l ++ UInt8.ofNat (nhead m false) :: (List.range j).map fun j => UInt8.ofNat (nbyte m (i - 1 - j) false)))))], nx := 2, ex := [], nt := 68 })
      (Inv := fun j => j ≤ i) (μ := fun j => i - j) (x0 := 0) ?_ (Nat.zero_le _) ?_
    · refine Fits.fit [(0, 0), (16, 1)] [0, 4, 7, 8] 2 rfl rfl ?_
      simp only [go_sem, List.range_zero, List.map_nil, bsA_app, imR_app, bsA_cons, imR_cons, bsA_nil, imR_nil, imL, Int.sub_zero, Int.natCast_zero, Int.ofNat_zero, rnCss_app, rnCss_im, List.map_cons]
      exact Fits.rfl
    intro j hj KL hKL
    by_cases hlt : j < i
    · have f1 : decide ((i : Int) - 1 - j ≥ 0) = true := by simp; omega
      have f2 : IntKind.i64.wrap (8 * ((i : Int) - 1 - j)) = 8 * (((i - 1 - j : Nat)) : Int) := by rw [w64 (by omega) (by omega)]; omega
      have f3 := shr8 m (i - 1 - j) (by omega) hm64
      have f4 : IntKind.u8.wrap ((m / 256 ^ (i - 1 - j) : Nat) : Int) = ((m / 256 ^ (i - 1 - j) % 256 : Nat) : Int) := by rw [IntKind.wrap_u8]; omega
      have f5 : bitsV .xor .u8 ((m / 256 ^ (i - 1 - j) % 256 : Nat) : Int) 0 = some (((UInt8.ofNat (nbyte m (i - 1 - j) false)).toNat : Nat) : Int) := by
        rw [bits0 _ (by omega), u8n (nbyte_lt _ _ _)]; rfl
      have f6 : IntKind.i64.wrap ((i : Int) - 1 - j - 1) = (i : Int) - 1 - ((j + 1 : Nat) : Int) := by rw [w64 (by omega) (by omega)]; omega
      repeat' (first
        | ((show W _ _ _ _); first | (refine W.seq fun K hK => ?_) | refine W.block ?_ | (refine W.reg rfl ?_; simp only [go_sem, reduceCtorEq, f1, f2, f3, f4, f6, bsA_len, List.length_append]) | (refine W.regD Try_mo rfl rfl ?_; simp only [go_sem, reduceCtorEq, f1, f2, f3, f4, f6, bsA_len, List.length_append]) | (refine W.skip ?_; simp only [go_sem]) | (refine W.exit ?_; simp only [go_sem]) | (refine W.ret (Post.ret ?_); simp only [go_sem, reduceCtorEq, f1, f2, f3, f4, f6, bsA_len, List.length_append]) | refine W.condT rfl ?_ | refine W.condF rfl ?_ | refine W.cond rfl (fun h => ?_) (fun h => ?_))
        | ((show AX _ _ _ _ _); first | (refine AX.pcall rfl rfl (by simp only [go_sem, unim_im]; rfl) (by solve_by_elim) rfl rfl ?_; simp only [go_sem, reduceCtorEq, f1, f2, f3, f4, f6, bsA_len, List.length_append]) | (refine AX.pcallF rfl rfl (by simp only [go_sem, unim_im]; rfl) (by simp only [go_sem, unim_im]; rfl) (by solve_by_elim) rfl rfl ?_; simp only [go_sem, reduceCtorEq, f1, f2, f3, f4, f6, bsA_len, List.length_append]) | (refine AX.lookup rfl (by first | exact tM65 | exact tM66) (by first | exact tG2 | exact tG3 | exact tG4 | exact tG5 | exact tG7 | exact tG9 | exact tG12 | exact tG13 | exact tG18 | exact tG19 | exact tG20 | exact tG21 | exact tG22 | exact tG23 | exact tG25 | exact tG26 | exact tG27 | exact tG34 | exact tG36 | exact tG37 | exact tG38 | exact tG46 | exact tG49 | exact tG50 | exact tG51 | exact tG58 | exact tG59 | exact tG65 | exact tG66 | exact tG69 | exact tG70 | exact tG72 | exact tG74 | exact tG75 | exact tG79 | exact tG80 | exact tG87 | exact tG90 | exact tG95 | exact tG96 | exact tG100 | exact tG103 | exact tG111 | exact tG117 | exact tG121 | exact tG128 | exact tG134 | exact tG142 | exact tG145 | exact tG148) (by first | exact kd9) rfl rfl rfl (by assumption) rfl ?_; simp only [go_sem, reduceCtorEq, f1, f2, f3, f4, f6, bsA_len, List.length_append]) | (refine AX.mapUpdate rfl rfl (by first | exact tM65 | exact tM66) (by first | exact kd9) rfl rfl rfl (by assumption) rfl (by simp only [go_sem, reduceCtorEq, f1, f2, f3, f4, f6, bsA_len, List.length_append]) ?_; simp only [go_sem, reduceCtorEq, f1, f2, f3, f4, f6, bsA_len, List.length_append]) | (refine AX.makeMap rfl (by first | exact tM65 | exact tM66) rfl ?_; simp only [go_sem, reduceCtorEq, f1, f2, f3, f4, f6, bsA_len, List.length_append]) | (refine AX.lenMap rfl (by first | exact tM65 | exact tM66) rfl rfl rfl ?_; simp only [go_sem, reduceCtorEq, f1, f2, f3, f4, f6, bsA_len, List.length_append]) | (refine AX.range rfl (by first | exact tM65 | exact tM66) rfl rfl rfl ?_; simp only [go_sem, reduceCtorEq, f1, f2, f3, f4, f6, bsA_len, List.length_append]) | (refine AX.appendStr rfl (by first | exact tL22 | exact tL23 | exact tL25 | exact tL34 | exact tL36 | exact tL50 | exact tL100) (by simp only [go_sem]) (by simp only [go_sem]) (by simp only [go_sem]) rfl rfl rfl rfl (by simp only [go_sem, reduceCtorEq, f1, f2, f3, f4, f6, bsA_len, List.length_append]; first | omega | (simp; omega)) ?_; simp only [go_sem, reduceCtorEq, f1, f2, f3, f4, f6, bsA_len, List.length_append]) | (refine AX.shr rfl rfl rfl rfl (by first | decide | omega) ?_; simp only [go_sem, reduceCtorEq, f1, f2, f3, f4, f6, bsA_len, List.length_append]) | (refine AX.shl rfl rfl rfl rfl (by first | decide | omega) ?_; simp only [go_sem, reduceCtorEq, f1, f2, f3, f4, f6, bsA_len, List.length_append]) | (refine AX.bits rfl rfl rfl (by assumption) rfl ?_; simp only [go_sem, reduceCtorEq, f1, f2, f3, f4, f6, bsA_len, List.length_append]) | (refine AX.nilSl rfl (by first | exact tL22 | exact tL23 | exact tL25 | exact tL34 | exact tL36 | exact tL50 | exact tL100) (by first | exact .inl rfl | exact .inr rfl) rfl rfl rfl ?_; simp only [go_sem, reduceCtorEq, f1, f2, f3, f4, f6, bsA_len, List.length_append]))
        | ((show indepK _ _ _ _ = true ∧ _); refine And.intro (by kernel_rfl) ?_)
        | ((show _ ∧ _); refine And.intro (by first | omega | assumption | (simp only [go_sem]; omega) | (simp; omega) | (simp; done)) ?_)
        | (refine hK _ ?_; clear hK K)
        | (clear hK K; refine hK _ ?_; clear hK K)
        | (clear hK K; clear hK K; refine hK _ ?_; clear hK K)
        | (clear hK K; clear hK K; clear hK K; refine hK _ ?_; clear hK K)
        | fail)
      refine hKL.to (j + 1) (by omega) (by omega) (Fits.fit [(0, 0), (17, 1)] [0, 4, 7, 8] 2 rfl rfl ?_)
      simp only [go_sem, List.range_succ, List.map_append, List.map_cons, List.map_nil, bsA_app, imR_app, bsA_cons, imR_cons, bsA_nil, imR_nil, imL, rnCss_app, rnCss_im, List.append_assoc, List.cons_append]
      exact Fits.rfl
    · have f1 : decide ((i : Int) - 1 - j ≥ 0) = false := by simp; omega
      obtain rfl : j = i := by omega
      clear hKL
      repeat' (first
        | ((show W _ _ _ _); first | (refine W.seq fun K hK => ?_) | refine W.block ?_ | (refine W.reg rfl ?_; simp only [go_sem, reduceCtorEq, f1]) | (refine W.regD Try_mo rfl rfl ?_; simp only [go_sem, reduceCtorEq, f1]) | (refine W.skip ?_; simp only [go_sem]) | (refine W.exit ?_; simp only [go_sem]) | (refine W.ret (Post.ret ?_); simp only [go_sem, reduceCtorEq, f1]) | refine W.condT rfl ?_ | refine W.condF rfl ?_ | refine W.cond rfl (fun h => ?_) (fun h => ?_))
        | ((show AX _ _ _ _ _); first | (refine AX.pcall rfl rfl (by simp only [go_sem, unim_im]; rfl) (by solve_by_elim) rfl rfl ?_; simp only [go_sem, reduceCtorEq, f1]) | (refine AX.pcallF rfl rfl (by simp only [go_sem, unim_im]; rfl) (by simp only [go_sem, unim_im]; rfl) (by solve_by_elim) rfl rfl ?_; simp only [go_sem, reduceCtorEq, f1]) | (refine AX.lookup rfl (by first | exact tM65 | exact tM66) (by first | exact tG2 | exact tG3 | exact tG4 | exact tG5 | exact tG7 | exact tG9 | exact tG12 | exact tG13 | exact tG18 | exact tG19 | exact tG20 | exact tG21 | exact tG22 | exact tG23 | exact tG25 | exact tG26 | exact tG27 | exact tG34 | exact tG36 | exact tG37 | exact tG38 | exact tG46 | exact tG49 | exact tG50 | exact tG51 | exact tG58 | exact tG59 | exact tG65 | exact tG66 | exact tG69 | exact tG70 | exact tG72 | exact tG74 | exact tG75 | exact tG79 | exact tG80 | exact tG87 | exact tG90 | exact tG95 | exact tG96 | exact tG100 | exact tG103 | exact tG111 | exact tG117 | exact tG121 | exact tG128 | exact tG134 | exact tG142 | exact tG145 | exact tG148) (by first | exact kd9) rfl rfl rfl (by assumption) rfl ?_; simp only [go_sem, reduceCtorEq, f1]) | (refine AX.mapUpdate rfl rfl (by first | exact tM65 | exact tM66) (by first | exact kd9) rfl rfl rfl (by assumption) rfl (by simp only [go_sem, reduceCtorEq, f1]) ?_; simp only [go_sem, reduceCtorEq, f1]) | (refine AX.makeMap rfl (by first | exact tM65 | exact tM66) rfl ?_; simp only [go_sem, reduceCtorEq, f1]) | (refine AX.lenMap rfl (by first | exact tM65 | exact tM66) rfl rfl rfl ?_; simp only [go_sem, reduceCtorEq, f1]) | (refine AX.range rfl (by first | exact tM65 | exact tM66) rfl rfl rfl ?_; simp only [go_sem, reduceCtorEq, f1]) | (refine AX.appendStr rfl (by first | exact tL22 | exact tL23 | exact tL25 | exact tL34 | exact tL36 | exact tL50 | exact tL100) (by simp only [go_sem]) (by simp only [go_sem]) (by simp only [go_sem]) rfl rfl rfl rfl (by simp only [go_sem, reduceCtorEq, f1]; first | omega | (simp; omega)) ?_; simp only [go_sem, reduceCtorEq, f1]) | (refine AX.shr rfl rfl rfl rfl (by first | decide | omega) ?_; simp only [go_sem, reduceCtorEq, f1]) | (refine AX.shl rfl rfl rfl rfl (by first | decide | omega) ?_; simp only [go_sem, reduceCtorEq, f1]) | (refine AX.bits rfl rfl rfl (by assumption) rfl ?_; simp only [go_sem, reduceCtorEq, f1]) | (refine AX.nilSl rfl (by first | exact tL22 | exact tL23 | exact tL25 | exact tL34 | exact tL36 | exact tL50 | exact tL100) (by first | exact .inl rfl | exact .inr rfl) rfl rfl rfl ?_; simp only [go_sem, reduceCtorEq, f1]))
        | ((show indepK _ _ _ _ = true ∧ _); refine And.intro (by kernel_rfl) ?_)
        | ((show _ ∧ _); refine And.intro (by first | omega | assumption | (simp only [go_sem]; omega) | (simp; omega) | (simp; done)) ?_)
        | (refine hK _ ?_; clear hK K)
        | (clear hK K; refine hK _ ?_; clear hK K)
        | (clear hK K; clear hK K; refine hK _ ?_; clear hK K)
        | (clear hK K; clear hK K; clear hK K; refine hK _ ?_; clear hK K)
        | fail)
      refine PostG.normal (Fits.fit [(0, 0), (1, 1)] [] 2 rfl rfl Fits.rfl) rfl rfl ?_
      rw [hi]
      simp only [St.r, go_sem, rnCss_im]
  · have hcond : decide (n < 0) = true := hneg
    have ehd : IntKind.u8.wrap (IntKind.i64.wrap (128 - (i : Int))) = (((UInt8.ofNat (nhead m true)).toNat : Nat) : Int) := by
      rw [w64 (by omega) (by omega), u8n hhead, IntKind.wrap_u8]
      simp only [nhead, hi, if_true, Bool.false_eq_true, if_false]
      omega
    repeat' (first
      | ((show W _ _ _ _); first | (refine W.seq fun K hK => ?_) | refine W.block ?_ | (refine W.reg rfl ?_; simp only [go_sem, reduceCtorEq, hcond, hsub, ehd, bsA_len]) | (refine W.regD Try_mo rfl rfl ?_; simp only [go_sem, reduceCtorEq, hcond, hsub, ehd, bsA_len]) | (refine W.skip ?_; simp only [go_sem]) | (refine W.exit ?_; simp only [go_sem]) | (refine W.ret (Post.ret ?_); simp only [go_sem, reduceCtorEq, hcond, hsub, ehd, bsA_len]) | refine W.condT rfl ?_ | refine W.condF rfl ?_ | refine W.cond rfl (fun h => ?_) (fun h => ?_))
      | ((show AX _ _ _ _ _); first | (refine AX.pcall rfl rfl (by simp only [go_sem, unim_im]; rfl) (by solve_by_elim) rfl rfl ?_; simp only [go_sem, reduceCtorEq, hcond, hsub, ehd, bsA_len]) | (refine AX.pcallF rfl rfl (by simp only [go_sem, unim_im]; rfl) (by simp only [go_sem, unim_im]; rfl) (by solve_by_elim) rfl rfl ?_; simp only [go_sem, reduceCtorEq, hcond, hsub, ehd, bsA_len]) | (refine AX.lookup rfl (by first | exact tM65 | exact tM66) (by first | exact tG2 | exact tG3 | exact tG4 | exact tG5 | exact tG7 | exact tG9 | exact tG12 | exact tG13 | exact tG18 | exact tG19 | exact tG20 | exact tG21 | exact tG22 | exact tG23 | exact tG25 | exact tG26 | exact tG27 | exact tG34 | exact tG36 | exact tG37 | exact tG38 | exact tG46 | exact tG49 | exact tG50 | exact tG51 | exact tG58 | exact tG59 | exact tG65 | exact tG66 | exact tG69 | exact tG70 | exact tG72 | exact tG74 | exact tG75 | exact tG79 | exact tG80 | exact tG87 | exact tG90 | exact tG95 | exact tG96 | exact tG100 | exact tG103 | exact tG111 | exact tG117 | exact tG121 | exact tG128 | exact tG134 | exact tG142 | exact tG145 | exact tG148) (by first | exact kd9) rfl rfl rfl (by assumption) rfl ?_; simp only [go_sem, reduceCtorEq, hcond, hsub, ehd, bsA_len]) | (refine AX.mapUpdate rfl rfl (by first | exact tM65 | exact tM66) (by first | exact kd9) rfl rfl rfl (by assumption) rfl (by simp only [go_sem, reduceCtorEq, hcond, hsub, ehd, bsA_len]) ?_; simp only [go_sem, reduceCtorEq, hcond, hsub, ehd, bsA_len]) | (refine AX.makeMap rfl (by first | exact tM65 | exact tM66) rfl ?_; simp only [go_sem, reduceCtorEq, hcond, hsub, ehd, bsA_len]) | (refine AX.lenMap rfl (by first | exact tM65 | exact tM66) rfl rfl rfl ?_; simp only [go_sem, reduceCtorEq, hcond, hsub, ehd, bsA_len]) | (refine AX.range rfl (by first | exact tM65 | exact tM66) rfl rfl rfl ?_; simp only [go_sem, reduceCtorEq, hcond, hsub, ehd, bsA_len]) | (refine AX.appendStr rfl (by first | exact tL22 | exact tL23 | exact tL25 | exact tL34 | exact tL36 | exact tL50 | exact tL100) (by simp only [go_sem]) (by simp only [go_sem]) (by simp only [go_sem]) rfl rfl rfl rfl (by simp only [go_sem, reduceCtorEq, hcond, hsub, ehd, bsA_len]; first | omega | (simp; omega)) ?_; simp only [go_sem, reduceCtorEq, hcond, hsub, ehd, bsA_len]) | (refine AX.shr rfl rfl rfl rfl (by first | decide | omega) ?_; simp only [go_sem, reduceCtorEq, hcond, hsub, ehd, bsA_len]) | (refine AX.shl rfl rfl rfl rfl (by first | decide | omega) ?_; simp only [go_sem, reduceCtorEq, hcond, hsub, ehd, bsA_len]) | (refine AX.bits rfl rfl rfl (by assumption) rfl ?_; simp only [go_sem, reduceCtorEq, hcond, hsub, ehd, bsA_len]) | (refine AX.nilSl rfl (by first | exact tL22 | exact tL23 | exact tL25 | exact tL34 | exact tL36 | exact tL50 | exact tL100) (by first | exact .inl rfl | exact .inr rfl) rfl rfl rfl ?_; simp only [go_sem, reduceCtorEq, hcond, hsub, ehd, bsA_len]))
      | ((show indepK _ _ _ _ = true ∧ _); refine And.intro (by kernel_rfl) ?_)
      | ((show _ ∧ _); refine And.intro (by first | omega | assumption | (simp only [go_sem]; omega) | (simp; omega) | (simp; done)) ?_)
      | (refine hK _ ?_; clear hK K)
      | (clear hK K; refine hK _ ?_; clear hK K)
      | (clear hK K; clear hK K; refine hK _ ?_; clear hK K)
      | (clear hK K; clear hK K; clear hK K; refine hK _ ?_; clear hK K)
      | fail)
    refine W.loopF (T := fun j : Nat => { t := [(0, .c (.ptr 0 0)), (4, ft (.int .u64 (m : Int))), (7, ft (.int .u8 255)), (8, ft (.int .i64 ((i : Int) - 1 - j)))], h := [(0, .box 70 [.ref 1]), (1, .row 5 (imR (bsA (l ++ UInt8.ofNat (nhead m true) :: (List.range j).map fun j => UInt8.ofNat (nbyte m (i - 1 - j) true)))))], nx := 2, ex := [], nt := 68 })
      (Inv := fun j => j ≤ i) (μ := fun j => i - j) (x0 := 0) ?_ (Nat.zero_le _) ?_
    · refine Fits.fit [(0, 0), (17, 1)] [0, 4, 7, 8] 2 rfl rfl ?_
      simp only [go_sem, List.range_zero, List.map_nil, bsA_app, imR_app, bsA_cons, imR_cons, bsA_nil, imR_nil, imL, Int.sub_zero, Int.natCast_zero, Int.ofNat_zero, rnCss_app, rnCss_im, List.map_cons]
      exact Fits.rfl
    intro j hj KL hKL
    by_cases hlt : j < i
    · have f1 : decide ((i : Int) - 1 - j ≥ 0) = true := by simp; omega
      have f2 : IntKind.i64.wrap (8 * ((i : Int) - 1 - j)) = 8 * (((i - 1 - j : Nat)) : Int) := by rw [w64 (by omega) (by omega)]; omega
      have f3 := shr8 m (i - 1 - j) (by omega) hm64
      have f4 : IntKind.u8.wrap ((m / 256 ^ (i - 1 - j) : Nat) : Int) = ((m / 256 ^ (i - 1 - j) % 256 : Nat) : Int) := by rw [IntKind.wrap_u8]; omega
      have f5 : bitsV .xor .u8 ((m / 256 ^ (i - 1 - j) % 256 : Nat) : Int) 255 = some (((UInt8.ofNat (nbyte m (i - 1 - j) true)).toNat : Nat) : Int) := by
        rw [bits255 _ (by omega), u8n (nbyte_lt _ _ _)]; rfl
      have f6 : IntKind.i64.wrap ((i : Int) - 1 - j - 1) = (i : Int) - 1 - ((j + 1 : Nat) : Int) := by rw [w64 (by omega) (by omega)]; omega
      repeat' (first
        | ((show W _ _ _ _); first | (refine W.seq fun K hK => ?_) | refine W.block ?_ | (refine W.reg rfl ?_; simp only [go_sem, reduceCtorEq, f1, f2, f3, f4, f6, bsA_len, List.length_append]) | (refine W.regD Try_mo rfl rfl ?_; simp only [go_sem, reduceCtorEq, f1, f2, f3, f4, f6, bsA_len, List.length_append]) | (refine W.skip ?_; simp only [go_sem]) | (refine W.exit ?_; simp only [go_sem]) | (refine W.ret (Post.ret ?_); simp only [go_sem, reduceCtorEq, f1, f2, f3, f4, f6, bsA_len, List.length_append]) | refine W.condT rfl ?_ | refine W.condF rfl ?_ | refine W.cond rfl (fun h => ?_) (fun h => ?_))
        | ((show AX _ _ _ _ _); first | (refine AX.pcall rfl rfl (by simp only [go_sem, unim_im]; rfl) (by solve_by_elim) rfl rfl ?_; simp only [go_sem, reduceCtorEq, f1, f2, f3, f4, f6, bsA_len, List.length_append]) | (refine AX.pcallF rfl rfl (by simp only [go_sem, unim_im]; rfl) (by simp only [go_sem, unim_im]; rfl) (by solve_by_elim) rfl rfl ?_; simp only [go_sem, reduceCtorEq, f1, f2, f3, f4, f6, bsA_len, List.length_append]) | (refine AX.lookup rfl (by first | exact tM65 | exact tM66) (by first | exact tG2 | exact tG3 | exact tG4 | exact tG5 | exact tG7 | exact tG9 | exact tG12 | exact tG13 | exact tG18 | exact tG19 | exact tG20 | exact tG21 | exact tG22 | exact tG23 | exact tG25 | exact tG26 | exact tG27 | exact tG34 | exact tG36 | exact tG37 | exact tG38 | exact tG46 | exact tG49 | exact tG50 | exact tG51 | exact tG58 | exact tG59 | exact tG65 | exact tG66 | exact tG69 | exact tG70 | exact tG72 | exact tG74 | exact tG75 | exact tG79 | exact tG80 | exact tG87 | exact tG90 | exact tG95 | exact tG96 | exact tG100 | exact tG103 | exact tG111 | exact tG117 | exact tG121 | exact tG128 | exact tG134 | exact tG142 | exact tG145 | exact tG148) (by first | exact kd9) rfl rfl rfl (by assumption) rfl ?_; simp only [go_sem, reduceCtorEq, f1, f2, f3, f4, f6, bsA_len, List.length_append]) | (refine AX.mapUpdate rfl rfl (by first | exact tM65 | exact tM66) (by first | exact kd9) rfl rfl rfl (by assumption) rfl (by simp only [go_sem, reduceCtorEq, f1, f2, f3, f4, f6, bsA_len, List.length_append]) ?_; simp only [go_sem, reduceCtorEq, f1, f2, f3, f4, f6, bsA_len, List.length_append]) | (refine AX.makeMap rfl (by first | exact tM65 | exact tM66) rfl ?_; simp only [go_sem, reduceCtorEq, f1, f2, f3, f4, f6, bsA_len, List.length_append]) | (refine AX.lenMap rfl (by first | exact tM65 | exact tM66) rfl rfl rfl ?_; simp only [go_sem, reduceCtorEq, f1, f2, f3, f4, f6, bsA_len, List.length_append]) | (refine AX.range rfl (by first | exact tM65 | exact tM66) rfl rfl rfl ?_; simp only [go_sem, reduceCtorEq, f1, f2, f3, f4, f6, bsA_len, List.length_append]) | (refine AX.appendStr rfl (by first | exact tL22 | exact tL23 | exact tL25 | exact tL34 | exact tL36 | exact tL50 | exact tL100) (by simp only [go_sem]) (by simp only [go_sem]) (by simp only [go_sem]) rfl rfl rfl rfl (by simp only [go_sem, reduceCtorEq, f1, f2, f3, f4, f6, bsA_len, List.length_append]; first | omega | (simp; omega)) ?_; simp only [go_sem, reduceCtorEq, f1, f2, f3, f4, f6, bsA_len, List.length_append]) | (refine AX.shr rfl rfl rfl rfl (by first | decide | omega) ?_; simp only [go_sem, reduceCtorEq, f1, f2, f3, f4, f6, bsA_len, List.length_append]) | (refine AX.shl rfl rfl rfl rfl (by first | decide | omega) ?_; simp only [go_sem, reduceCtorEq, f1, f2, f3, f4, f6, bsA_len, List.length_append]) | (refine AX.bits rfl rfl rfl (by assumption) rfl ?_; simp only [go_sem, reduceCtorEq, f1, f2, f3, f4, f6, bsA_len, List.length_append]) | (refine AX.nilSl rfl (by first | exact tL22 | exact tL23 | exact tL25 | exact tL34 | exact tL36 | exact tL50 | exact tL100) (by first | exact .inl rfl | exact .inr rfl) rfl rfl rfl ?_; simp only [go_sem, reduceCtorEq, f1, f2, f3, f4, f6, bsA_len, List.length_append]))
        | ((show indepK _ _ _ _ = true ∧ _); refine And.intro (by kernel_rfl) ?_)
        | ((show _ ∧ _); refine And.intro (by first | omega | assumption | (simp only [go_sem]; omega) | (simp; omega) | (simp; done)) ?_)
        | (refine hK _ ?_; clear hK K)
        | (clear hK K; refine hK _ ?_; clear hK K)
        | (clear hK K; clear hK K; refine hK _ ?_; clear hK K)
        | (clear hK K; clear hK K; clear hK K; refine hK _ ?_; clear hK K)
        | fail)
      refine hKL.to (j + 1) (by omega) (by omega) (Fits.fit [(0, 0), (17, 1)] [0, 4, 7, 8] 2 rfl rfl ?_)
      simp only [go_sem, List.range_succ, List.map_append, List.map_cons, List.map_nil, bsA_app, imR_app, bsA_cons, imR_cons, bsA_nil, imR_nil, imL, rnCss_app, rnCss_im, List.append_assoc, List.cons_append]
      exact Fits.rfl
    · have f1 : decide ((i : Int) - 1 - j ≥ 0) = false := by simp; omega
      obtain rfl : j = i := by omega
      clear hKL
      repeat' (first
        | ((show W _ _ _ _); first | (refine W.seq fun K hK => ?_) | refine W.block ?_ | (refine W.reg rfl ?_; simp only [go_sem, reduceCtorEq, f1]) | (refine W.regD Try_mo rfl rfl ?_; simp only [go_sem, reduceCtorEq, f1]) | (refine W.skip ?_; simp only [go_sem]) | (refine W.exit ?_; simp only [go_sem]) | (refine W.ret (Post.ret ?_); simp only [go_sem, reduceCtorEq, f1]) | refine W.condT rfl ?_ | refine W.condF rfl ?_ | refine W.cond rfl (fun h => ?_) (fun h => ?_))
        | ((show AX _ _ _ _ _); first | (refine AX.pcall rfl rfl (by simp only [go_sem, unim_im]; rfl) (by solve_by_elim) rfl rfl ?_; simp only [go_sem, reduceCtorEq, f1]) | (refine AX.pcallF rfl rfl (by simp only [go_sem, unim_im]; rfl) (by simp only [go_sem, unim_im]; rfl) (by solve_by_elim) rfl rfl ?_; simp only [go_sem, reduceCtorEq, f1]) | (refine AX.lookup rfl (by first | exact tM65 | exact tM66) (by first | exact tG2 | exact tG3 | exact tG4 | exact tG5 | exact tG7 | exact tG9 | exact tG12 | exact tG13 | exact tG18 | exact tG19 | exact tG20 | exact tG21 | exact tG22 | exact tG23 | exact tG25 | exact tG26 | exact tG27 | exact tG34 | exact tG36 | exact tG37 | exact tG38 | exact tG46 | exact tG49 | exact tG50 | exact tG51 | exact tG58 | exact tG59 | exact tG65 | exact tG66 | exact tG69 | exact tG70 | exact tG72 | exact tG74 | exact tG75 | exact tG79 | exact tG80 | exact tG87 | exact tG90 | exact tG95 | exact tG96 | exact tG100 | exact tG103 | exact tG111 | exact tG117 | exact tG121 | exact tG128 | exact tG134 | exact tG142 | exact tG145 | exact tG148) (by first | exact kd9) rfl rfl rfl (by assumption) rfl ?_; simp only [go_sem, reduceCtorEq, f1]) | (refine AX.mapUpdate rfl rfl (by first | exact tM65 | exact tM66) (by first | exact kd9) rfl rfl rfl (by assumption) rfl (by simp only [go_sem, reduceCtorEq, f1]) ?_; simp only [go_sem, reduceCtorEq, f1]) | (refine AX.makeMap rfl (by first | exact tM65 | exact tM66) rfl ?_; simp only [go_sem, reduceCtorEq, f1]) | (refine AX.lenMap rfl (by first | exact tM65 | exact tM66) rfl rfl rfl ?_; simp only [go_sem, reduceCtorEq, f1]) | (refine AX.range rfl (by first | exact tM65 | exact tM66) rfl rfl rfl ?_; simp only [go_sem, reduceCtorEq, f1]) | (refine AX.appendStr rfl (by first | exact tL22 | exact tL23 | exact tL25 | exact tL34 | exact tL36 | exact tL50 | exact tL100) (by simp only [go_sem]) (by simp only [go_sem]) (by simp only [go_sem]) rfl rfl rfl rfl (by simp only [go_sem, reduceCtorEq, f1]; first | omega | (simp; omega)) ?_; simp only [go_sem, reduceCtorEq, f1]) | (refine AX.shr rfl rfl rfl rfl (by first | decide | omega) ?_; simp only [go_sem, reduceCtorEq, f1]) | (refine AX.shl rfl rfl rfl rfl (by first | decide | omega) ?_; simp only [go_sem, reduceCtorEq, f1]) | (refine AX.bits rfl rfl rfl (by assumption) rfl ?_; simp only [go_sem, reduceCtorEq, f1]) | (refine AX.nilSl rfl (by first | exact tL22 | exact tL23 | exact tL25 | exact tL34 | exact tL36 | exact tL50 | exact tL100) (by first | exact .inl rfl | exact .inr rfl) rfl rfl rfl ?_; simp only [go_sem, reduceCtorEq, f1]))
        | ((show indepK _ _ _ _ = true ∧ _); refine And.intro (by kernel_rfl) ?_)
        | ((show _ ∧ _); refine And.intro (by first | omega | assumption | (simp only [go_sem]; omega) | (simp; omega) | (simp; done)) ?_)
        | (refine hK _ ?_; clear hK K)
        | (clear hK K; refine hK _ ?_; clear hK K)
        | (clear hK K; clear hK K; refine hK _ ?_; clear hK K)
        | (clear hK K; clear hK K; clear hK K; refine hK _ ?_; clear hK K)
        | fail)
      refine PostG.normal (Fits.fit [(0, 0), (1, 1)] [] 2 rfl rfl Fits.rfl) rfl rfl ?_
      rw [hi]
      simp only [St.r, go_sem, rnCss_im]
end Go.Proofs.Ytegcmciglakicaa
namespace Go.Proofs.Ytegcmciglakicaa
open Go.RowKit Go.Exe
set_option linter.unusedVariables false
set_option linter.unusedSimpArgs false
set_option maxHeartbeats 1000000
set_option maxRecDepth 100000
attribute [local irreducible] W AX Run RunD AStep AOp AOpX AStB AStH AStG Fits PCall GCall PostG Post Stop

def textB (b : ByteArray) : List UInt8 := numB (b.size : Int) ++ b.data.toList
theorem numB_len (n : Int) (h1 : -9223372036854775808 ≤ n) (h2 : n < 9223372036854775808) : (numB n).length ≤ 9 := by
  unfold numB
  simp
  have := nsize_le 8 n.natAbs (by omega)
  omega
theorem text_c (l : List UInt8) (b : ByteArray) (hl : l.length + 9 + b.size ≤ 140737488355328) :
    GCall Try.prog 43 1 (St.g [.c (.ptr 0 0), ft (.string b)] [(0, .box 70 [.ref 1]), (1, .row 5 (imR (bsA l)))] 2) (St.r (.t []) [(0, .box 70 [.ref 1]), (1, .row 5 (imR (bsA (l ++ textB b))))] 2) := by
  have hnum := numB_len (b.size : Int) (by omega) (by omega)
  refine GCall.introG (nt := 19) (rs := []) Try.func43 rfl ⟨by kernel_rfl, by kernel_rfl, by kernel_rfl⟩ (by simp) ?_
  rintro ⟨P, w0, ok0, may, np, pblk⟩ rfl rfl
  simp only [go_sem]
  repeat' (first
    | ((show W _ _ _ _); first | (refine W.seq fun K hK => ?_) | refine W.block ?_ | (refine W.reg rfl ?_; simp only [go_sem, reduceCtorEq]) | (refine W.regD Try_mo rfl rfl ?_; simp only [go_sem, reduceCtorEq]) | (refine W.skip ?_; simp only [go_sem]) | (refine W.exit ?_; simp only [go_sem]) | (refine W.ret (Post.ret ?_); simp only [go_sem, reduceCtorEq]) | refine W.condT rfl ?_ | refine W.condF rfl ?_ | refine W.cond rfl (fun h => ?_) (fun h => ?_))
    | ((show AX _ _ _ _ _); first | (refine AX.pcall rfl rfl (by simp only [go_sem, unim_im]; rfl) (by solve_by_elim) rfl rfl ?_; simp only [go_sem, reduceCtorEq]) | (refine AX.pcallF rfl rfl (by simp only [go_sem, unim_im]; rfl) (by simp only [go_sem, unim_im]; rfl) (by solve_by_elim) rfl rfl ?_; simp only [go_sem, reduceCtorEq]) | (refine AX.lookup rfl (by first | exact tM65 | exact tM66) (by first | exact tG2 | exact tG3 | exact tG4 | exact tG5 | exact tG7 | exact tG9 | exact tG12 | exact tG13 | exact tG18 | exact tG19 | exact tG20 | exact tG21 | exact tG22 | exact tG23 | exact tG25 | exact tG26 | exact tG27 | exact tG34 | exact tG36 | exact tG37 | exact tG38 | exact tG46 | exact tG49 | exact tG50 | exact tG51 | exact tG58 | exact tG59 | exact tG65 | exact tG66 | exact tG69 | exact tG70 | exact tG72 | exact tG74 | exact tG75 | exact tG79 | exact tG80 | exact tG87 | exact tG90 | exact tG95 | exact tG96 | exact tG100 | exact tG103 | exact tG111 | exact tG117 | exact tG121 | exact tG128 | exact tG134 | exact tG142 | exact tG145 | exact tG148) (by first | exact kd9) rfl rfl rfl (by assumption) rfl ?_; simp only [go_sem, reduceCtorEq]) | (refine AX.mapUpdate rfl rfl (by first | exact tM65 | exact tM66) (by first | exact kd9) rfl rfl rfl (by assumption) rfl (by simp only [go_sem, reduceCtorEq]) ?_; simp only [go_sem, reduceCtorEq]) | (refine AX.makeMap rfl (by first | exact tM65 | exact tM66) rfl ?_; simp only [go_sem, reduceCtorEq]) | (refine AX.lenMap rfl (by first | exact tM65 | exact tM66) rfl rfl rfl ?_; simp only [go_sem, reduceCtorEq]) | (refine AX.range rfl (by first | exact tM65 | exact tM66) rfl rfl rfl ?_; simp only [go_sem, reduceCtorEq]) | (refine AX.appendStr rfl (by first | exact tL22 | exact tL23 | exact tL25 | exact tL34 | exact tL36 | exact tL50 | exact tL100) (by simp only [go_sem]) (by simp only [go_sem]) (by simp only [go_sem]) rfl rfl rfl rfl (by simp only [go_sem, reduceCtorEq]; first | omega | (simp; omega)) ?_; simp only [go_sem, reduceCtorEq]) | (refine AX.shr rfl rfl rfl rfl (by first | decide | omega) ?_; simp only [go_sem, reduceCtorEq]) | (refine AX.shl rfl rfl rfl rfl (by first | decide | omega) ?_; simp only [go_sem, reduceCtorEq]) | (refine AX.bits rfl rfl rfl (by assumption) rfl ?_; simp only [go_sem, reduceCtorEq]) | (refine AX.nilSl rfl (by first | exact tL22 | exact tL23 | exact tL25 | exact tL34 | exact tL36 | exact tL50 | exact tL100) (by first | exact .inl rfl | exact .inr rfl) rfl rfl rfl ?_; simp only [go_sem, reduceCtorEq]))
    | ((show indepK _ _ _ _ = true ∧ _); refine And.intro (by kernel_rfl) ?_)
    | ((show _ ∧ _); refine And.intro (by first | omega | assumption | (simp only [go_sem]; omega) | (simp; omega) | (simp; done)) ?_)
    | (refine hK _ ?_; clear hK K)
    | (clear hK K; refine hK _ ?_; clear hK K)
    | (clear hK K; clear hK K; refine hK _ ?_; clear hK K)
    | (clear hK K; clear hK K; clear hK K; refine hK _ ?_; clear hK K)
    | fail)
  refine AX.gcall [0, 1] rfl rfl (number_c l (b.size : Int) (by omega) (by omega) (by omega)) (by simp only [go_sem, reduceCtorEq]) (by simp only [go_sem, reduceCtorEq]) rfl rfl (by simp only [go_sem, Obj.owns]) rfl (by simp only [go_sem, Obj.owns]) rfl rfl ?_
  simp only [go_sem, reduceCtorEq]
  repeat' (first
    | ((show W _ _ _ _); first | (refine W.seq fun K hK => ?_) | refine W.block ?_ | (refine W.reg rfl ?_; simp only [go_sem, reduceCtorEq, rnCss_im, bsA_len]) | (refine W.regD Try_mo rfl rfl ?_; simp only [go_sem, reduceCtorEq, rnCss_im, bsA_len]) | (refine W.skip ?_; simp only [go_sem]) | (refine W.exit ?_; simp only [go_sem]) | (refine W.ret (Post.ret ?_); simp only [go_sem, reduceCtorEq, rnCss_im, bsA_len]) | refine W.condT rfl ?_ | refine W.condF rfl ?_ | refine W.cond rfl (fun h => ?_) (fun h => ?_))
    | ((show AX _ _ _ _ _); first | (refine AX.pcall rfl rfl (by simp only [go_sem, unim_im]; rfl) (by solve_by_elim) rfl rfl ?_; simp only [go_sem, reduceCtorEq, rnCss_im, bsA_len]) | (refine AX.pcallF rfl rfl (by simp only [go_sem, unim_im]; rfl) (by simp only [go_sem, unim_im]; rfl) (by solve_by_elim) rfl rfl ?_; simp only [go_sem, reduceCtorEq, rnCss_im, bsA_len]) | (refine AX.lookup rfl (by first | exact tM65 | exact tM66) (by first | exact tG2 | exact tG3 | exact tG4 | exact tG5 | exact tG7 | exact tG9 | exact tG12 | exact tG13 | exact tG18 | exact tG19 | exact tG20 | exact tG21 | exact tG22 | exact tG23 | exact tG25 | exact tG26 | exact tG27 | exact tG34 | exact tG36 | exact tG37 | exact tG38 | exact tG46 | exact tG49 | exact tG50 | exact tG51 | exact tG58 | exact tG59 | exact tG65 | exact tG66 | exact tG69 | exact tG70 | exact tG72 | exact tG74 | exact tG75 | exact tG79 | exact tG80 | exact tG87 | exact tG90 | exact tG95 | exact tG96 | exact tG100 | exact tG103 | exact tG111 | exact tG117 | exact tG121 | exact tG128 | exact tG134 | exact tG142 | exact tG145 | exact tG148) (by first | exact kd9) rfl rfl rfl (by assumption) rfl ?_; simp only [go_sem, reduceCtorEq, rnCss_im, bsA_len]) | (refine AX.mapUpdate rfl rfl (by first | exact tM65 | exact tM66) (by first | exact kd9) rfl rfl rfl (by assumption) rfl (by simp only [go_sem, reduceCtorEq, rnCss_im, bsA_len]) ?_; simp only [go_sem, reduceCtorEq, rnCss_im, bsA_len]) | (refine AX.makeMap rfl (by first | exact tM65 | exact tM66) rfl ?_; simp only [go_sem, reduceCtorEq, rnCss_im, bsA_len]) | (refine AX.lenMap rfl (by first | exact tM65 | exact tM66) rfl rfl rfl ?_; simp only [go_sem, reduceCtorEq, rnCss_im, bsA_len]) | (refine AX.range rfl (by first | exact tM65 | exact tM66) rfl rfl rfl ?_; simp only [go_sem, reduceCtorEq, rnCss_im, bsA_len]) | (refine AX.appendStr rfl (by first | exact tL22 | exact tL23 | exact tL25 | exact tL34 | exact tL36 | exact tL50 | exact tL100) (by simp only [go_sem]) (by simp only [go_sem]) (by simp only [go_sem]) rfl rfl rfl rfl (by simp only [go_sem, reduceCtorEq, rnCss_im, bsA_len]; first | omega | (simp; omega)) ?_; simp only [go_sem, reduceCtorEq, rnCss_im, bsA_len]) | (refine AX.shr rfl rfl rfl rfl (by first | decide | omega) ?_; simp only [go_sem, reduceCtorEq, rnCss_im, bsA_len]) | (refine AX.shl rfl rfl rfl rfl (by first | decide | omega) ?_; simp only [go_sem, reduceCtorEq, rnCss_im, bsA_len]) | (refine AX.bits rfl rfl rfl (by assumption) rfl ?_; simp only [go_sem, reduceCtorEq, rnCss_im, bsA_len]) | (refine AX.nilSl rfl (by first | exact tL22 | exact tL23 | exact tL25 | exact tL34 | exact tL36 | exact tL50 | exact tL100) (by first | exact .inl rfl | exact .inr rfl) rfl rfl rfl ?_; simp only [go_sem, reduceCtorEq, rnCss_im, bsA_len]))
    | ((show indepK _ _ _ _ = true ∧ _); refine And.intro (by kernel_rfl) ?_)
    | ((show _ ∧ _); refine And.intro (by first | omega | assumption | (simp only [go_sem]; omega) | (simp; omega) | (simp; done)) ?_)
    | (refine hK _ ?_; clear hK K)
    | (clear hK K; refine hK _ ?_; clear hK K)
    | (clear hK K; clear hK K; refine hK _ ?_; clear hK K)
    | (clear hK K; clear hK K; clear hK K; refine hK _ ?_; clear hK K)
    | fail)
  refine PostG.normal (Fits.fit [(0, 0), (14, 1)] [] 2 rfl rfl Fits.rfl) rfl rfl ?_
  simp only [St.r, go_sem, rnCss_im, rnCss_app, textB, bsA_app, imR_app, List.append_assoc]
theorem bytes_c (l : List UInt8) :
    GCall Try.prog 41 1 (St.g [.c (.ptr 0 0)] [(0, .box 70 [.ref 1]), (1, .row 5 (imR (bsA l)))] 2) (St.r (ft (.string ⟨l.toArray⟩)) [(0, .box 70 [.ref 1]), (1, .row 5 (imR (bsA l)))] 2) := by
  refine GCall.introG (nt := 10) (rs := [.tmp 2]) Try.func41 rfl ⟨by kernel_rfl, by kernel_rfl, by kernel_rfl⟩ (by simp) ?_
  rintro ⟨P, w0, ok0, may, np, pblk⟩ rfl rfl
  simp only [go_sem]
  repeat' (first
    | ((show W _ _ _ _); first | (refine W.seq fun K hK => ?_) | refine W.block ?_ | (refine W.reg rfl ?_; simp only [go_sem, reduceCtorEq]) | (refine W.regD Try_mo rfl rfl ?_; simp only [go_sem, reduceCtorEq]) | (refine W.skip ?_; simp only [go_sem]) | (refine W.exit ?_; simp only [go_sem]) | (refine W.ret (Post.ret ?_); simp only [go_sem, reduceCtorEq]) | refine W.condT rfl ?_ | refine W.condF rfl ?_ | refine W.cond rfl (fun h => ?_) (fun h => ?_))
    | ((show AX _ _ _ _ _); first | (refine AX.pcall rfl rfl (by simp only [go_sem, unim_im]; rfl) (by solve_by_elim) rfl rfl ?_; simp only [go_sem, reduceCtorEq]) | (refine AX.pcallF rfl rfl (by simp only [go_sem, unim_im]; rfl) (by simp only [go_sem, unim_im]; rfl) (by solve_by_elim) rfl rfl ?_; simp only [go_sem, reduceCtorEq]) | (refine AX.lookup rfl (by first | exact tM65 | exact tM66) (by first | exact tG2 | exact tG3 | exact tG4 | exact tG5 | exact tG7 | exact tG9 | exact tG12 | exact tG13 | exact tG18 | exact tG19 | exact tG20 | exact tG21 | exact tG22 | exact tG23 | exact tG25 | exact tG26 | exact tG27 | exact tG34 | exact tG36 | exact tG37 | exact tG38 | exact tG46 | exact tG49 | exact tG50 | exact tG51 | exact tG58 | exact tG59 | exact tG65 | exact tG66 | exact tG69 | exact tG70 | exact tG72 | exact tG74 | exact tG75 | exact tG79 | exact tG80 | exact tG87 | exact tG90 | exact tG95 | exact tG96 | exact tG100 | exact tG103 | exact tG111 | exact tG117 | exact tG121 | exact tG128 | exact tG134 | exact tG142 | exact tG145 | exact tG148) (by first | exact kd9) rfl rfl rfl (by assumption) rfl ?_; simp only [go_sem, reduceCtorEq]) | (refine AX.mapUpdate rfl rfl (by first | exact tM65 | exact tM66) (by first | exact kd9) rfl rfl rfl (by assumption) rfl (by simp only [go_sem, reduceCtorEq]) ?_; simp only [go_sem, reduceCtorEq]) | (refine AX.makeMap rfl (by first | exact tM65 | exact tM66) rfl ?_; simp only [go_sem, reduceCtorEq]) | (refine AX.lenMap rfl (by first | exact tM65 | exact tM66) rfl rfl rfl ?_; simp only [go_sem, reduceCtorEq]) | (refine AX.range rfl (by first | exact tM65 | exact tM66) rfl rfl rfl ?_; simp only [go_sem, reduceCtorEq]) | (refine AX.appendStr rfl (by first | exact tL22 | exact tL23 | exact tL25 | exact tL34 | exact tL36 | exact tL50 | exact tL100) (by simp only [go_sem]) (by simp only [go_sem]) (by simp only [go_sem]) rfl rfl rfl rfl (by simp only [go_sem, reduceCtorEq]; first | omega | (simp; omega)) ?_; simp only [go_sem, reduceCtorEq]) | (refine AX.shr rfl rfl rfl rfl (by first | decide | omega) ?_; simp only [go_sem, reduceCtorEq]) | (refine AX.shl rfl rfl rfl rfl (by first | decide | omega) ?_; simp only [go_sem, reduceCtorEq]) | (refine AX.bits rfl rfl rfl (by assumption) rfl ?_; simp only [go_sem, reduceCtorEq]) | (refine AX.nilSl rfl (by first | exact tL22 | exact tL23 | exact tL25 | exact tL34 | exact tL36 | exact tL50 | exact tL100) (by first | exact .inl rfl | exact .inr rfl) rfl rfl rfl ?_; simp only [go_sem, reduceCtorEq]))
    | ((show indepK _ _ _ _ = true ∧ _); refine And.intro (by kernel_rfl) ?_)
    | ((show _ ∧ _); refine And.intro (by first | omega | assumption | (simp only [go_sem]; omega) | (simp; omega) | (simp; done)) ?_)
    | (refine hK _ ?_; clear hK K)
    | (clear hK K; refine hK _ ?_; clear hK K)
    | (clear hK K; clear hK K; refine hK _ ?_; clear hK K)
    | (clear hK K; clear hK K; clear hK K; refine hK _ ?_; clear hK K)
    | fail)
  refine AX.bytesStr l rfl tL22 tU9 tE5 tU5 rfl rfl rfl ?_
  simp only [go_sem]
  repeat' (first
    | ((show W _ _ _ _); first | (refine W.seq fun K hK => ?_) | refine W.block ?_ | (refine W.reg rfl ?_; simp only [go_sem, reduceCtorEq]) | (refine W.regD Try_mo rfl rfl ?_; simp only [go_sem, reduceCtorEq]) | (refine W.skip ?_; simp only [go_sem]) | (refine W.exit ?_; simp only [go_sem]) | (refine W.ret (Post.ret ?_); simp only [go_sem, reduceCtorEq]) | refine W.condT rfl ?_ | refine W.condF rfl ?_ | refine W.cond rfl (fun h => ?_) (fun h => ?_))
    | ((show AX _ _ _ _ _); first | (refine AX.pcall rfl rfl (by simp only [go_sem, unim_im]; rfl) (by solve_by_elim) rfl rfl ?_; simp only [go_sem, reduceCtorEq]) | (refine AX.pcallF rfl rfl (by simp only [go_sem, unim_im]; rfl) (by simp only [go_sem, unim_im]; rfl) (by solve_by_elim) rfl rfl ?_; simp only [go_sem, reduceCtorEq]) | (refine AX.lookup rfl (by first | exact tM65 | exact tM66) (by first | exact tG2 | exact tG3 | exact tG4 | exact tG5 | exact tG7 | exact tG9 | exact tG12 | exact tG13 | exact tG18 | exact tG19 | exact tG20 | exact tG21 | exact tG22 | exact tG23 | exact tG25 | exact tG26 | exact tG27 | exact tG34 | exact tG36 | exact tG37 | exact tG38 | exact tG46 | exact tG49 | exact tG50 | exact tG51 | exact tG58 | exact tG59 | exact tG65 | exact tG66 | exact tG69 | exact tG70 | exact tG72 | exact tG74 | exact tG75 | exact tG79 | exact tG80 | exact tG87 | exact tG90 | exact tG95 | exact tG96 | exact tG100 | exact tG103 | exact tG111 | exact tG117 | exact tG121 | exact tG128 | exact tG134 | exact tG142 | exact tG145 | exact tG148) (by first | exact kd9) rfl rfl rfl (by assumption) rfl ?_; simp only [go_sem, reduceCtorEq]) | (refine AX.mapUpdate rfl rfl (by first | exact tM65 | exact tM66) (by first | exact kd9) rfl rfl rfl (by assumption) rfl (by simp only [go_sem, reduceCtorEq]) ?_; simp only [go_sem, reduceCtorEq]) | (refine AX.makeMap rfl (by first | exact tM65 | exact tM66) rfl ?_; simp only [go_sem, reduceCtorEq]) | (refine AX.lenMap rfl (by first | exact tM65 | exact tM66) rfl rfl rfl ?_; simp only [go_sem, reduceCtorEq]) | (refine AX.range rfl (by first | exact tM65 | exact tM66) rfl rfl rfl ?_; simp only [go_sem, reduceCtorEq]) | (refine AX.appendStr rfl (by first | exact tL22 | exact tL23 | exact tL25 | exact tL34 | exact tL36 | exact tL50 | exact tL100) (by simp only [go_sem]) (by simp only [go_sem]) (by simp only [go_sem]) rfl rfl rfl rfl (by simp only [go_sem, reduceCtorEq]; first | omega | (simp; omega)) ?_; simp only [go_sem, reduceCtorEq]) | (refine AX.shr rfl rfl rfl rfl (by first | decide | omega) ?_; simp only [go_sem, reduceCtorEq]) | (refine AX.shl rfl rfl rfl rfl (by first | decide | omega) ?_; simp only [go_sem, reduceCtorEq]) | (refine AX.bits rfl rfl rfl (by assumption) rfl ?_; simp only [go_sem, reduceCtorEq]) | (refine AX.nilSl rfl (by first | exact tL22 | exact tL23 | exact tL25 | exact tL34 | exact tL36 | exact tL50 | exact tL100) (by first | exact .inl rfl | exact .inr rfl) rfl rfl rfl ?_; simp only [go_sem, reduceCtorEq]))
    | ((show indepK _ _ _ _ = true ∧ _); refine And.intro (by kernel_rfl) ?_)
    | ((show _ ∧ _); refine And.intro (by first | omega | assumption | (simp only [go_sem]; omega) | (simp; omega) | (simp; done)) ?_)
    | (refine hK _ ?_; clear hK K)
    | (clear hK K; refine hK _ ?_; clear hK K)
    | (clear hK K; clear hK K; refine hK _ ?_; clear hK K)
    | (clear hK K; clear hK K; clear hK K; refine hK _ ?_; clear hK K)
    | fail)
  refine W.ret (PostG.ret (Fits.fit [(0, 0), (1, 1)] [2] 2 rfl rfl Fits.rfl) rfl rfl ?_)
  simp only [St.r, go_sem]
theorem nameS (n : ByteArray × ByteArray) : True := trivial
/-- The key of a path. -/
def nmA (n : ByteArray × ByteArray) : List AV := [.flat (.string n.1), .flat (.string n.2)]
def nameB (n : ByteArray × ByteArray) : List UInt8 := textB n.1 ++ textB n.2
def pathB : List (ByteArray × ByteArray) → List UInt8
  | [] => []
  | n :: r => nameB n ++ pathB r
def pathW : List (ByteArray × ByteArray) → Nat
  | [] => 0
  | n :: r => 32 + n.1.size + n.2.size + pathW r
theorem pathB_app : ∀ l m, pathB (l ++ m) = pathB l ++ pathB m
  | [], _ => rfl
  | n :: r, m => by simp [pathB, pathB_app r m]
theorem pathW_app : ∀ l m, pathW (l ++ m) = pathW l + pathW m
  | [], _ => by simp [pathW]
  | n :: r, m => by simp [pathW, pathW_app r m]; omega
theorem textB_len (b : ByteArray) (h : b.size < 9223372036854775808) : (textB b).length ≤ 9 + b.size := by
  unfold textB
  have := numB_len (b.size : Int) (by omega) (by omega)
  have e : b.data.toList.length = b.size := by simp
  simp only [List.length_append, e]; omega
theorem pathW_mem : ∀ {l : List (ByteArray × ByteArray)} {n}, n ∈ l → 32 + n.1.size + n.2.size ≤ pathW l
  | m :: r, n, h => by
    rcases List.mem_cons.1 h with rfl | h
    · simp [pathW]
    · have := pathW_mem h; simp only [pathW]; omega
theorem pathB_len : ∀ (l : List (ByteArray × ByteArray)), pathW l < 9223372036854775808 → (pathB l).length ≤ pathW l
  | [], _ => by simp [pathB]
  | n :: r, h => by
    simp only [pathW] at h
    have h1 := textB_len n.1 (by omega)
    have h2 := textB_len n.2 (by omega)
    have h3 := pathB_len r (by omega)
    simp only [pathB, nameB, pathW, List.length_append]; omega
theorem pathKey_c (p : List (ByteArray × ByteArray)) (hp : pathW p ≤ 140737488355328) :
    PCall Try.prog 54 [.c (.im (.sl 59 (p.map nmA)))] (ft (.string ⟨(pathB p).toArray⟩)) := by
  refine PCall.intro (nt := 20) (rs := [.tmp 2]) Try.func54 rfl ⟨by kernel_rfl, by kernel_rfl, by kernel_rfl⟩ (by simp) ?_
  rintro ⟨P, w0, ok0, may, np, pblk⟩ rfl rfl
  repeat' (first
    | ((show W _ _ _ _); first | (refine W.seq fun K hK => ?_) | refine W.block ?_ | (refine W.reg rfl ?_; simp only [go_sem, reduceCtorEq]) | (refine W.regD Try_mo rfl rfl ?_; simp only [go_sem, reduceCtorEq]) | (refine W.skip ?_; simp only [go_sem]) | (refine W.exit ?_; simp only [go_sem]) | (refine W.ret (Post.ret ?_); simp only [go_sem, reduceCtorEq]) | refine W.condT rfl ?_ | refine W.condF rfl ?_ | refine W.cond rfl (fun h => ?_) (fun h => ?_))
    | ((show AX _ _ _ _ _); first | (refine AX.pcall rfl rfl (by simp only [go_sem, unim_im]; rfl) (by solve_by_elim) rfl rfl ?_; simp only [go_sem, reduceCtorEq]) | (refine AX.pcallF rfl rfl (by simp only [go_sem, unim_im]; rfl) (by simp only [go_sem, unim_im]; rfl) (by solve_by_elim) rfl rfl ?_; simp only [go_sem, reduceCtorEq]) | (refine AX.lookup rfl (by first | exact tM65 | exact tM66) (by first | exact tG2 | exact tG3 | exact tG4 | exact tG5 | exact tG7 | exact tG9 | exact tG12 | exact tG13 | exact tG18 | exact tG19 | exact tG20 | exact tG21 | exact tG22 | exact tG23 | exact tG25 | exact tG26 | exact tG27 | exact tG34 | exact tG36 | exact tG37 | exact tG38 | exact tG46 | exact tG49 | exact tG50 | exact tG51 | exact tG58 | exact tG59 | exact tG65 | exact tG66 | exact tG69 | exact tG70 | exact tG72 | exact tG74 | exact tG75 | exact tG79 | exact tG80 | exact tG87 | exact tG90 | exact tG95 | exact tG96 | exact tG100 | exact tG103 | exact tG111 | exact tG117 | exact tG121 | exact tG128 | exact tG134 | exact tG142 | exact tG145 | exact tG148) (by first | exact kd9) rfl rfl rfl (by assumption) rfl ?_; simp only [go_sem, reduceCtorEq]) | (refine AX.mapUpdate rfl rfl (by first | exact tM65 | exact tM66) (by first | exact kd9) rfl rfl rfl (by assumption) rfl (by simp only [go_sem, reduceCtorEq]) ?_; simp only [go_sem, reduceCtorEq]) | (refine AX.makeMap rfl (by first | exact tM65 | exact tM66) rfl ?_; simp only [go_sem, reduceCtorEq]) | (refine AX.lenMap rfl (by first | exact tM65 | exact tM66) rfl rfl rfl ?_; simp only [go_sem, reduceCtorEq]) | (refine AX.range rfl (by first | exact tM65 | exact tM66) rfl rfl rfl ?_; simp only [go_sem, reduceCtorEq]) | (refine AX.appendStr rfl (by first | exact tL22 | exact tL23 | exact tL25 | exact tL34 | exact tL36 | exact tL50 | exact tL100) (by simp only [go_sem]) (by simp only [go_sem]) (by simp only [go_sem]) rfl rfl rfl rfl (by simp only [go_sem, reduceCtorEq]; first | omega | (simp; omega)) ?_; simp only [go_sem, reduceCtorEq]) | (refine AX.shr rfl rfl rfl rfl (by first | decide | omega) ?_; simp only [go_sem, reduceCtorEq]) | (refine AX.shl rfl rfl rfl rfl (by first | decide | omega) ?_; simp only [go_sem, reduceCtorEq]) | (refine AX.bits rfl rfl rfl (by assumption) rfl ?_; simp only [go_sem, reduceCtorEq]) | (refine AX.nilSl rfl (by first | exact tL22 | exact tL23 | exact tL25 | exact tL34 | exact tL36 | exact tL50 | exact tL100) (by first | exact .inl rfl | exact .inr rfl) rfl rfl rfl ?_; simp only [go_sem, reduceCtorEq]))
    | ((show indepK _ _ _ _ = true ∧ _); refine And.intro (by kernel_rfl) ?_)
    | ((show _ ∧ _); refine And.intro (by first | omega | assumption | (simp only [go_sem]; omega) | (simp; omega) | (simp; done)) ?_)
    | (refine hK _ ?_; clear hK K)
    | (clear hK K; refine hK _ ?_; clear hK K)
    | (clear hK K; clear hK K; refine hK _ ?_; clear hK K)
    | (clear hK K; clear hK K; clear hK K; refine hK _ ?_; clear hK K)
    | fail)
  refine W.lenIm 6 rfl fun hlen => ?_
  rw [List.length_map, maxLen_is] at hlen
  refine W.loopF (T := fun i : Nat => { t := [(3, .c (.ptr 0 0)), (6, .c (.im (.sl 59 (p.map nmA)))), (7, ft (.int .i64 p.length)), (8, ft (.int .i64 (i : Nat)))], h := [(0, .box 70 [.ref 1]), (1, .row 5 (imR (bsA (pathB (p.take i)))))], nx := 2, ex := [], nt := 20 })
    (Inv := fun i => i ≤ p.length) (μ := fun i => p.length - i) (x0 := 0) ?_ (Nat.zero_le _) ?_
  · refine Fits.fit [(1, 0)] [3, 6, 7, 8] 1 rfl rfl ?_
    simp only [go_sem]
    refine Fits.adoptB 0 70 _ 0 1 5 rfl rfl rfl rfl tE5 rfl ?_
    simp only [go_sem]
    refine Fits.fit [(0, 0), (1, 1)] [3, 6, 7, 8] 2 rfl rfl ?_
    simp only [go_sem, List.length_map, List.set_cons_zero, pathB, bsA_nil, imR_nil]
    exact Fits.rfl
  intro i hi KL hKL
  by_cases hlt : i < p.length
  · obtain ⟨⟨n1, n2⟩, hx, hm, hd⟩ := drop_at hlt
    have e1 : decide ((i : Int) < p.length) = true := by simp; omega
    have hw := w64s i (by omega)
    have ht := take_at hx
    have hW : pathW (p.take (i + 1)) ≤ pathW p := by
      have := pathW_app (p.take (i + 1)) (p.drop (i + 1))
      rw [List.take_append_drop] at this
      omega
    have hW2 : pathW (p.take (i + 1)) = pathW (p.take i) + (32 + n1.size + n2.size) := by rw [ht, pathW_app]; simp [pathW]
    have hl := pathB_len (p.take i) (by omega)
    have hl2 := textB_len n1 (by omega)
    repeat' (first
      | ((show W _ _ _ _); first | (refine W.seq fun K hK => ?_) | refine W.block ?_ | (refine W.reg rfl ?_; simp only [go_sem, reduceCtorEq, e1, hw, List.getElem?_map, hx, nmA]) | (refine W.regD Try_mo rfl rfl ?_; simp only [go_sem, reduceCtorEq, e1, hw, List.getElem?_map, hx, nmA]) | (refine W.skip ?_; simp only [go_sem]) | (refine W.exit ?_; simp only [go_sem]) | (refine W.ret (Post.ret ?_); simp only [go_sem, reduceCtorEq, e1, hw, List.getElem?_map, hx, nmA]) | refine W.condT rfl ?_ | refine W.condF rfl ?_ | refine W.cond rfl (fun h => ?_) (fun h => ?_))
      | ((show AX _ _ _ _ _); first | (refine AX.pcall rfl rfl (by simp only [go_sem, unim_im]; rfl) (by solve_by_elim) rfl rfl ?_; simp only [go_sem, reduceCtorEq, e1, hw, List.getElem?_map, hx, nmA]) | (refine AX.pcallF rfl rfl (by simp only [go_sem, unim_im]; rfl) (by simp only [go_sem, unim_im]; rfl) (by solve_by_elim) rfl rfl ?_; simp only [go_sem, reduceCtorEq, e1, hw, List.getElem?_map, hx, nmA]) | (refine AX.lookup rfl (by first | exact tM65 | exact tM66) (by first | exact tG2 | exact tG3 | exact tG4 | exact tG5 | exact tG7 | exact tG9 | exact tG12 | exact tG13 | exact tG18 | exact tG19 | exact tG20 | exact tG21 | exact tG22 | exact tG23 | exact tG25 | exact tG26 | exact tG27 | exact tG34 | exact tG36 | exact tG37 | exact tG38 | exact tG46 | exact tG49 | exact tG50 | exact tG51 | exact tG58 | exact tG59 | exact tG65 | exact tG66 | exact tG69 | exact tG70 | exact tG72 | exact tG74 | exact tG75 | exact tG79 | exact tG80 | exact tG87 | exact tG90 | exact tG95 | exact tG96 | exact tG100 | exact tG103 | exact tG111 | exact tG117 | exact tG121 | exact tG128 | exact tG134 | exact tG142 | exact tG145 | exact tG148) (by first | exact kd9) rfl rfl rfl (by assumption) rfl ?_; simp only [go_sem, reduceCtorEq, e1, hw, List.getElem?_map, hx, nmA]) | (refine AX.mapUpdate rfl rfl (by first | exact tM65 | exact tM66) (by first | exact kd9) rfl rfl rfl (by assumption) rfl (by simp only [go_sem, reduceCtorEq, e1, hw, List.getElem?_map, hx, nmA]) ?_; simp only [go_sem, reduceCtorEq, e1, hw, List.getElem?_map, hx, nmA]) | (refine AX.makeMap rfl (by first | exact tM65 | exact tM66) rfl ?_; simp only [go_sem, reduceCtorEq, e1, hw, List.getElem?_map, hx, nmA]) | (refine AX.lenMap rfl (by first | exact tM65 | exact tM66) rfl rfl rfl ?_; simp only [go_sem, reduceCtorEq, e1, hw, List.getElem?_map, hx, nmA]) | (refine AX.range rfl (by first | exact tM65 | exact tM66) rfl rfl rfl ?_; simp only [go_sem, reduceCtorEq, e1, hw, List.getElem?_map, hx, nmA]) | (refine AX.appendStr rfl (by first | exact tL22 | exact tL23 | exact tL25 | exact tL34 | exact tL36 | exact tL50 | exact tL100) (by simp only [go_sem]) (by simp only [go_sem]) (by simp only [go_sem]) rfl rfl rfl rfl (by simp only [go_sem, reduceCtorEq, e1, hw, List.getElem?_map, hx, nmA]; first | omega | (simp; omega)) ?_; simp only [go_sem, reduceCtorEq, e1, hw, List.getElem?_map, hx, nmA]) | (refine AX.shr rfl rfl rfl rfl (by first | decide | omega) ?_; simp only [go_sem, reduceCtorEq, e1, hw, List.getElem?_map, hx, nmA]) | (refine AX.shl rfl rfl rfl rfl (by first | decide | omega) ?_; simp only [go_sem, reduceCtorEq, e1, hw, List.getElem?_map, hx, nmA]) | (refine AX.bits rfl rfl rfl (by assumption) rfl ?_; simp only [go_sem, reduceCtorEq, e1, hw, List.getElem?_map, hx, nmA]) | (refine AX.nilSl rfl (by first | exact tL22 | exact tL23 | exact tL25 | exact tL34 | exact tL36 | exact tL50 | exact tL100) (by first | exact .inl rfl | exact .inr rfl) rfl rfl rfl ?_; simp only [go_sem, reduceCtorEq, e1, hw, List.getElem?_map, hx, nmA]))
      | ((show indepK _ _ _ _ = true ∧ _); refine And.intro (by kernel_rfl) ?_)
      | ((show _ ∧ _); refine And.intro (by first | omega | assumption | (simp only [go_sem]; omega) | (simp; omega) | (simp; done)) ?_)
      | (refine hK _ ?_; clear hK K)
      | (clear hK K; refine hK _ ?_; clear hK K)
      | (clear hK K; clear hK K; refine hK _ ?_; clear hK K)
      | (clear hK K; clear hK K; clear hK K; refine hK _ ?_; clear hK K)
      | fail)
    refine AX.gcall [0, 1] rfl rfl (text_c (pathB (p.take i)) n1 (by omega)) (by simp only [go_sem, reduceCtorEq]) (by simp only [go_sem, reduceCtorEq]) rfl rfl (by simp only [go_sem, Obj.owns]) rfl (by simp only [go_sem, Obj.owns]) rfl rfl ?_
    simp only [go_sem, reduceCtorEq]
    repeat' (first
      | ((show W _ _ _ _); first | (refine W.seq fun K hK => ?_) | refine W.block ?_ | (refine W.reg rfl ?_; simp only [go_sem, reduceCtorEq]) | (refine W.regD Try_mo rfl rfl ?_; simp only [go_sem, reduceCtorEq]) | (refine W.skip ?_; simp only [go_sem]) | (refine W.exit ?_; simp only [go_sem]) | (refine W.ret (Post.ret ?_); simp only [go_sem, reduceCtorEq]) | refine W.condT rfl ?_ | refine W.condF rfl ?_ | refine W.cond rfl (fun h => ?_) (fun h => ?_))
      | ((show AX _ _ _ _ _); first | (refine AX.pcall rfl rfl (by simp only [go_sem, unim_im]; rfl) (by solve_by_elim) rfl rfl ?_; simp only [go_sem, reduceCtorEq]) | (refine AX.pcallF rfl rfl (by simp only [go_sem, unim_im]; rfl) (by simp only [go_sem, unim_im]; rfl) (by solve_by_elim) rfl rfl ?_; simp only [go_sem, reduceCtorEq]) | (refine AX.lookup rfl (by first | exact tM65 | exact tM66) (by first | exact tG2 | exact tG3 | exact tG4 | exact tG5 | exact tG7 | exact tG9 | exact tG12 | exact tG13 | exact tG18 | exact tG19 | exact tG20 | exact tG21 | exact tG22 | exact tG23 | exact tG25 | exact tG26 | exact tG27 | exact tG34 | exact tG36 | exact tG37 | exact tG38 | exact tG46 | exact tG49 | exact tG50 | exact tG51 | exact tG58 | exact tG59 | exact tG65 | exact tG66 | exact tG69 | exact tG70 | exact tG72 | exact tG74 | exact tG75 | exact tG79 | exact tG80 | exact tG87 | exact tG90 | exact tG95 | exact tG96 | exact tG100 | exact tG103 | exact tG111 | exact tG117 | exact tG121 | exact tG128 | exact tG134 | exact tG142 | exact tG145 | exact tG148) (by first | exact kd9) rfl rfl rfl (by assumption) rfl ?_; simp only [go_sem, reduceCtorEq]) | (refine AX.mapUpdate rfl rfl (by first | exact tM65 | exact tM66) (by first | exact kd9) rfl rfl rfl (by assumption) rfl (by simp only [go_sem, reduceCtorEq]) ?_; simp only [go_sem, reduceCtorEq]) | (refine AX.makeMap rfl (by first | exact tM65 | exact tM66) rfl ?_; simp only [go_sem, reduceCtorEq]) | (refine AX.lenMap rfl (by first | exact tM65 | exact tM66) rfl rfl rfl ?_; simp only [go_sem, reduceCtorEq]) | (refine AX.range rfl (by first | exact tM65 | exact tM66) rfl rfl rfl ?_; simp only [go_sem, reduceCtorEq]) | (refine AX.appendStr rfl (by first | exact tL22 | exact tL23 | exact tL25 | exact tL34 | exact tL36 | exact tL50 | exact tL100) (by simp only [go_sem]) (by simp only [go_sem]) (by simp only [go_sem]) rfl rfl rfl rfl (by simp only [go_sem, reduceCtorEq]; first | omega | (simp; omega)) ?_; simp only [go_sem, reduceCtorEq]) | (refine AX.shr rfl rfl rfl rfl (by first | decide | omega) ?_; simp only [go_sem, reduceCtorEq]) | (refine AX.shl rfl rfl rfl rfl (by first | decide | omega) ?_; simp only [go_sem, reduceCtorEq]) | (refine AX.bits rfl rfl rfl (by assumption) rfl ?_; simp only [go_sem, reduceCtorEq]) | (refine AX.nilSl rfl (by first | exact tL22 | exact tL23 | exact tL25 | exact tL34 | exact tL36 | exact tL50 | exact tL100) (by first | exact .inl rfl | exact .inr rfl) rfl rfl rfl ?_; simp only [go_sem, reduceCtorEq]))
      | ((show indepK _ _ _ _ = true ∧ _); refine And.intro (by kernel_rfl) ?_)
      | ((show _ ∧ _); refine And.intro (by first | omega | assumption | (simp only [go_sem]; omega) | (simp; omega) | (simp; done)) ?_)
      | (refine hK _ ?_; clear hK K)
      | (clear hK K; refine hK _ ?_; clear hK K)
      | (clear hK K; clear hK K; refine hK _ ?_; clear hK K)
      | (clear hK K; clear hK K; clear hK K; refine hK _ ?_; clear hK K)
      | fail)
    refine AX.gcall [0, 9] rfl rfl (text_c (pathB (p.take i) ++ textB n1) n2 (by simp only [List.length_append]; omega)) (by simp only [go_sem, reduceCtorEq]) (by simp only [go_sem, reduceCtorEq]) rfl rfl (by simp only [go_sem, Obj.owns]) rfl (by simp only [go_sem, Obj.owns]) rfl rfl ?_
    simp only [go_sem, reduceCtorEq]
    repeat' (first
      | ((show W _ _ _ _); first | (refine W.seq fun K hK => ?_) | refine W.block ?_ | (refine W.reg rfl ?_; simp only [go_sem, reduceCtorEq, hw]) | (refine W.regD Try_mo rfl rfl ?_; simp only [go_sem, reduceCtorEq, hw]) | (refine W.skip ?_; simp only [go_sem]) | (refine W.exit ?_; simp only [go_sem]) | (refine W.ret (Post.ret ?_); simp only [go_sem, reduceCtorEq, hw]) | refine W.condT rfl ?_ | refine W.condF rfl ?_ | refine W.cond rfl (fun h => ?_) (fun h => ?_))
      | ((show AX _ _ _ _ _); first | (refine AX.pcall rfl rfl (by simp only [go_sem, unim_im]; rfl) (by solve_by_elim) rfl rfl ?_; simp only [go_sem, reduceCtorEq, hw]) | (refine AX.pcallF rfl rfl (by simp only [go_sem, unim_im]; rfl) (by simp only [go_sem, unim_im]; rfl) (by solve_by_elim) rfl rfl ?_; simp only [go_sem, reduceCtorEq, hw]) | (refine AX.lookup rfl (by first | exact tM65 | exact tM66) (by first | exact tG2 | exact tG3 | exact tG4 | exact tG5 | exact tG7 | exact tG9 | exact tG12 | exact tG13 | exact tG18 | exact tG19 | exact tG20 | exact tG21 | exact tG22 | exact tG23 | exact tG25 | exact tG26 | exact tG27 | exact tG34 | exact tG36 | exact tG37 | exact tG38 | exact tG46 | exact tG49 | exact tG50 | exact tG51 | exact tG58 | exact tG59 | exact tG65 | exact tG66 | exact tG69 | exact tG70 | exact tG72 | exact tG74 | exact tG75 | exact tG79 | exact tG80 | exact tG87 | exact tG90 | exact tG95 | exact tG96 | exact tG100 | exact tG103 | exact tG111 | exact tG117 | exact tG121 | exact tG128 | exact tG134 | exact tG142 | exact tG145 | exact tG148) (by first | exact kd9) rfl rfl rfl (by assumption) rfl ?_; simp only [go_sem, reduceCtorEq, hw]) | (refine AX.mapUpdate rfl rfl (by first | exact tM65 | exact tM66) (by first | exact kd9) rfl rfl rfl (by assumption) rfl (by simp only [go_sem, reduceCtorEq, hw]) ?_; simp only [go_sem, reduceCtorEq, hw]) | (refine AX.makeMap rfl (by first | exact tM65 | exact tM66) rfl ?_; simp only [go_sem, reduceCtorEq, hw]) | (refine AX.lenMap rfl (by first | exact tM65 | exact tM66) rfl rfl rfl ?_; simp only [go_sem, reduceCtorEq, hw]) | (refine AX.range rfl (by first | exact tM65 | exact tM66) rfl rfl rfl ?_; simp only [go_sem, reduceCtorEq, hw]) | (refine AX.appendStr rfl (by first | exact tL22 | exact tL23 | exact tL25 | exact tL34 | exact tL36 | exact tL50 | exact tL100) (by simp only [go_sem]) (by simp only [go_sem]) (by simp only [go_sem]) rfl rfl rfl rfl (by simp only [go_sem, reduceCtorEq, hw]; first | omega | (simp; omega)) ?_; simp only [go_sem, reduceCtorEq, hw]) | (refine AX.shr rfl rfl rfl rfl (by first | decide | omega) ?_; simp only [go_sem, reduceCtorEq, hw]) | (refine AX.shl rfl rfl rfl rfl (by first | decide | omega) ?_; simp only [go_sem, reduceCtorEq, hw]) | (refine AX.bits rfl rfl rfl (by assumption) rfl ?_; simp only [go_sem, reduceCtorEq, hw]) | (refine AX.nilSl rfl (by first | exact tL22 | exact tL23 | exact tL25 | exact tL34 | exact tL36 | exact tL50 | exact tL100) (by first | exact .inl rfl | exact .inr rfl) rfl rfl rfl ?_; simp only [go_sem, reduceCtorEq, hw]))
      | ((show indepK _ _ _ _ = true ∧ _); refine And.intro (by kernel_rfl) ?_)
      | ((show _ ∧ _); refine And.intro (by first | omega | assumption | (simp only [go_sem]; omega) | (simp; omega) | (simp; done)) ?_)
      | (refine hK _ ?_; clear hK K)
      | (clear hK K; refine hK _ ?_; clear hK K)
      | (clear hK K; clear hK K; refine hK _ ?_; clear hK K)
      | (clear hK K; clear hK K; clear hK K; refine hK _ ?_; clear hK K)
      | fail)
    refine hKL.to (i + 1) (by omega) (by omega) (Fits.fit [(0, 0), (12, 1)] [3, 6, 7, 8] 2 rfl rfl ?_)
    simp only [go_sem, ht, pathB_app, pathB, nameB, List.append_assoc]
    exact Fits.rfl
  · have e1 : decide ((i : Int) < p.length) = false := by simp; omega
    obtain rfl : i = p.length := by omega
    clear hKL
    repeat' (first
      | ((show W _ _ _ _); first | (refine W.seq fun K hK => ?_) | refine W.block ?_ | (refine W.reg rfl ?_; simp only [go_sem, reduceCtorEq, e1]) | (refine W.regD Try_mo rfl rfl ?_; simp only [go_sem, reduceCtorEq, e1]) | (refine W.skip ?_; simp only [go_sem]) | (refine W.exit ?_; simp only [go_sem]) | (refine W.ret (Post.ret ?_); simp only [go_sem, reduceCtorEq, e1]) | refine W.condT rfl ?_ | refine W.condF rfl ?_ | refine W.cond rfl (fun h => ?_) (fun h => ?_))
      | ((show AX _ _ _ _ _); first | (refine AX.pcall rfl rfl (by simp only [go_sem, unim_im]; rfl) (by solve_by_elim) rfl rfl ?_; simp only [go_sem, reduceCtorEq, e1]) | (refine AX.pcallF rfl rfl (by simp only [go_sem, unim_im]; rfl) (by simp only [go_sem, unim_im]; rfl) (by solve_by_elim) rfl rfl ?_; simp only [go_sem, reduceCtorEq, e1]) | (refine AX.lookup rfl (by first | exact tM65 | exact tM66) (by first | exact tG2 | exact tG3 | exact tG4 | exact tG5 | exact tG7 | exact tG9 | exact tG12 | exact tG13 | exact tG18 | exact tG19 | exact tG20 | exact tG21 | exact tG22 | exact tG23 | exact tG25 | exact tG26 | exact tG27 | exact tG34 | exact tG36 | exact tG37 | exact tG38 | exact tG46 | exact tG49 | exact tG50 | exact tG51 | exact tG58 | exact tG59 | exact tG65 | exact tG66 | exact tG69 | exact tG70 | exact tG72 | exact tG74 | exact tG75 | exact tG79 | exact tG80 | exact tG87 | exact tG90 | exact tG95 | exact tG96 | exact tG100 | exact tG103 | exact tG111 | exact tG117 | exact tG121 | exact tG128 | exact tG134 | exact tG142 | exact tG145 | exact tG148) (by first | exact kd9) rfl rfl rfl (by assumption) rfl ?_; simp only [go_sem, reduceCtorEq, e1]) | (refine AX.mapUpdate rfl rfl (by first | exact tM65 | exact tM66) (by first | exact kd9) rfl rfl rfl (by assumption) rfl (by simp only [go_sem, reduceCtorEq, e1]) ?_; simp only [go_sem, reduceCtorEq, e1]) | (refine AX.makeMap rfl (by first | exact tM65 | exact tM66) rfl ?_; simp only [go_sem, reduceCtorEq, e1]) | (refine AX.lenMap rfl (by first | exact tM65 | exact tM66) rfl rfl rfl ?_; simp only [go_sem, reduceCtorEq, e1]) | (refine AX.range rfl (by first | exact tM65 | exact tM66) rfl rfl rfl ?_; simp only [go_sem, reduceCtorEq, e1]) | (refine AX.appendStr rfl (by first | exact tL22 | exact tL23 | exact tL25 | exact tL34 | exact tL36 | exact tL50 | exact tL100) (by simp only [go_sem]) (by simp only [go_sem]) (by simp only [go_sem]) rfl rfl rfl rfl (by simp only [go_sem, reduceCtorEq, e1]; first | omega | (simp; omega)) ?_; simp only [go_sem, reduceCtorEq, e1]) | (refine AX.shr rfl rfl rfl rfl (by first | decide | omega) ?_; simp only [go_sem, reduceCtorEq, e1]) | (refine AX.shl rfl rfl rfl rfl (by first | decide | omega) ?_; simp only [go_sem, reduceCtorEq, e1]) | (refine AX.bits rfl rfl rfl (by assumption) rfl ?_; simp only [go_sem, reduceCtorEq, e1]) | (refine AX.nilSl rfl (by first | exact tL22 | exact tL23 | exact tL25 | exact tL34 | exact tL36 | exact tL50 | exact tL100) (by first | exact .inl rfl | exact .inr rfl) rfl rfl rfl ?_; simp only [go_sem, reduceCtorEq, e1]))
      | ((show indepK _ _ _ _ = true ∧ _); refine And.intro (by kernel_rfl) ?_)
      | ((show _ ∧ _); refine And.intro (by first | omega | assumption | (simp only [go_sem]; omega) | (simp; omega) | (simp; done)) ?_)
      | (refine hK _ ?_; clear hK K)
      | (clear hK K; refine hK _ ?_; clear hK K)
      | (clear hK K; clear hK K; refine hK _ ?_; clear hK K)
      | (clear hK K; clear hK K; clear hK K; refine hK _ ?_; clear hK K)
      | fail)
    refine AX.gcall [0, 1] rfl rfl (bytes_c (pathB (p.take p.length))) (by simp only [go_sem, reduceCtorEq]) (by simp only [go_sem, reduceCtorEq]) rfl rfl (by simp only [go_sem, Obj.owns]) rfl (by simp only [go_sem, Obj.owns]) rfl rfl ?_
    simp only [go_sem, reduceCtorEq]
    repeat' (first
      | ((show W _ _ _ _); first | (refine W.seq fun K hK => ?_) | refine W.block ?_ | (refine W.reg rfl ?_; simp only [go_sem, reduceCtorEq]) | (refine W.regD Try_mo rfl rfl ?_; simp only [go_sem, reduceCtorEq]) | (refine W.skip ?_; simp only [go_sem]) | (refine W.exit ?_; simp only [go_sem]) | (refine W.ret (Post.ret ?_); simp only [go_sem, reduceCtorEq]) | refine W.condT rfl ?_ | refine W.condF rfl ?_ | refine W.cond rfl (fun h => ?_) (fun h => ?_))
      | ((show AX _ _ _ _ _); first | (refine AX.pcall rfl rfl (by simp only [go_sem, unim_im]; rfl) (by solve_by_elim) rfl rfl ?_; simp only [go_sem, reduceCtorEq]) | (refine AX.pcallF rfl rfl (by simp only [go_sem, unim_im]; rfl) (by simp only [go_sem, unim_im]; rfl) (by solve_by_elim) rfl rfl ?_; simp only [go_sem, reduceCtorEq]) | (refine AX.lookup rfl (by first | exact tM65 | exact tM66) (by first | exact tG2 | exact tG3 | exact tG4 | exact tG5 | exact tG7 | exact tG9 | exact tG12 | exact tG13 | exact tG18 | exact tG19 | exact tG20 | exact tG21 | exact tG22 | exact tG23 | exact tG25 | exact tG26 | exact tG27 | exact tG34 | exact tG36 | exact tG37 | exact tG38 | exact tG46 | exact tG49 | exact tG50 | exact tG51 | exact tG58 | exact tG59 | exact tG65 | exact tG66 | exact tG69 | exact tG70 | exact tG72 | exact tG74 | exact tG75 | exact tG79 | exact tG80 | exact tG87 | exact tG90 | exact tG95 | exact tG96 | exact tG100 | exact tG103 | exact tG111 | exact tG117 | exact tG121 | exact tG128 | exact tG134 | exact tG142 | exact tG145 | exact tG148) (by first | exact kd9) rfl rfl rfl (by assumption) rfl ?_; simp only [go_sem, reduceCtorEq]) | (refine AX.mapUpdate rfl rfl (by first | exact tM65 | exact tM66) (by first | exact kd9) rfl rfl rfl (by assumption) rfl (by simp only [go_sem, reduceCtorEq]) ?_; simp only [go_sem, reduceCtorEq]) | (refine AX.makeMap rfl (by first | exact tM65 | exact tM66) rfl ?_; simp only [go_sem, reduceCtorEq]) | (refine AX.lenMap rfl (by first | exact tM65 | exact tM66) rfl rfl rfl ?_; simp only [go_sem, reduceCtorEq]) | (refine AX.range rfl (by first | exact tM65 | exact tM66) rfl rfl rfl ?_; simp only [go_sem, reduceCtorEq]) | (refine AX.appendStr rfl (by first | exact tL22 | exact tL23 | exact tL25 | exact tL34 | exact tL36 | exact tL50 | exact tL100) (by simp only [go_sem]) (by simp only [go_sem]) (by simp only [go_sem]) rfl rfl rfl rfl (by simp only [go_sem, reduceCtorEq]; first | omega | (simp; omega)) ?_; simp only [go_sem, reduceCtorEq]) | (refine AX.shr rfl rfl rfl rfl (by first | decide | omega) ?_; simp only [go_sem, reduceCtorEq]) | (refine AX.shl rfl rfl rfl rfl (by first | decide | omega) ?_; simp only [go_sem, reduceCtorEq]) | (refine AX.bits rfl rfl rfl (by assumption) rfl ?_; simp only [go_sem, reduceCtorEq]) | (refine AX.nilSl rfl (by first | exact tL22 | exact tL23 | exact tL25 | exact tL34 | exact tL36 | exact tL50 | exact tL100) (by first | exact .inl rfl | exact .inr rfl) rfl rfl rfl ?_; simp only [go_sem, reduceCtorEq]))
      | ((show indepK _ _ _ _ = true ∧ _); refine And.intro (by kernel_rfl) ?_)
      | ((show _ ∧ _); refine And.intro (by first | omega | assumption | (simp only [go_sem]; omega) | (simp; omega) | (simp; done)) ?_)
      | (refine hK _ ?_; clear hK K)
      | (clear hK K; refine hK _ ?_; clear hK K)
      | (clear hK K; clear hK K; refine hK _ ?_; clear hK K)
      | (clear hK K; clear hK K; clear hK K; refine hK _ ?_; clear hK K)
      | fail)
    simp
end Go.Proofs.Ytegcmciglakicaa
namespace Go.Proofs.Ytegcmciglakicaa
open Go.RowKit Go.Exe
set_option linter.unusedVariables false
set_option linter.unusedSimpArgs false
set_option maxHeartbeats 1000000
set_option maxRecDepth 100000
attribute [local irreducible] W AX Run RunD AStep AOp AOpX AStB AStH AStG Fits PCall GCall PostG Post Stop

mutual
def Shp.keyB : Shp → List UInt8
  | .mk s o ks => textB s ++ (textB o ++ (numB (ks.length : Int) ++ keysB ks))
def keysB : List Shp → List UInt8
  | [] => []
  | x :: r => x.keyB ++ keysB r
end
mutual
def Shp.keyW : Shp → Nat
  | .mk s o ks => 27 + s.size + o.size + keysW ks
def keysW : List Shp → Nat
  | [] => 0
  | x :: r => x.keyW + keysW r
end
theorem keysB_app : ∀ l m, keysB (l ++ m) = keysB l ++ keysB m
  | [], _ => rfl
  | n :: r, m => by simp [keysB, keysB_app r m]
theorem keysW_app : ∀ l m, keysW (l ++ m) = keysW l + keysW m
  | [], _ => by simp [keysW]
  | n :: r, m => by simp [keysW, keysW_app r m]; omega
theorem keyW_pos (x : Shp) : 27 ≤ x.keyW := by cases x; simp only [Shp.keyW]; omega
theorem keysW_len : ∀ l : List Shp, l.length ≤ keysW l
  | [] => by simp
  | x :: r => by have := keyW_pos x; have := keysW_len r; simp only [keysW, List.length_cons]; omega
mutual
theorem keyB_len : ∀ x : Shp, x.keyW < 9223372036854775808 → x.keyB.length ≤ x.keyW
  | .mk s o ks, h => by
    simp only [Shp.keyW] at h
    have h1 := textB_len s (by omega)
    have h2 := textB_len o (by omega)
    have h3 := keysW_len ks
    have h4 := numB_len (ks.length : Int) (by omega) (by omega)
    have h5 := keysB_len ks (by omega)
    simp only [Shp.keyB, Shp.keyW, List.length_append]; omega
theorem keysB_len : ∀ l : List Shp, keysW l < 9223372036854775808 → (keysB l).length ≤ keysW l
  | [], _ => by simp [keysB]
  | x :: r, h => by
    simp only [keysW] at h
    have h1 := keyB_len x (by omega)
    have h2 := keysB_len r (by omega)
    simp only [keysB, keysW, List.length_append]; omega
end
theorem keysW_take {l : List Shp} {i : Nat} {x : Shp} (h : l[i]? = some x) : keysW (l.take i) + x.keyW ≤ keysW l := by
  have h1 := keysW_app (l.take (i + 1)) (l.drop (i + 1))
  rw [List.take_append_drop, take_at h, keysW_app] at h1
  simp [keysW] at h1
  omega
theorem write_c (s o : ByteArray) (ks : List Shp) (l : List UInt8) (hl : l.length + (Shp.mk s o ks).keyW ≤ 140737488355328) (ih : ∀ x ∈ ks, ∀ l : List UInt8, l.length + x.keyW ≤ 140737488355328 → GCall Try.prog 40 1 (St.g [.c (.ptr 0 0), shT x] [(0, .box 70 [.ref 1]), (1, .row 5 (imR (bsA l)))] 2) (St.r (.t []) [(0, .box 70 [.ref 1]), (1, .row 5 (imR (bsA (l ++ x.keyB))))] 2)) :
    GCall Try.prog 40 1 (St.g [.c (.ptr 0 0), shT (.mk s o ks)] [(0, .box 70 [.ref 1]), (1, .row 5 (imR (bsA l)))] 2) (St.r (.t []) [(0, .box 70 [.ref 1]), (1, .row 5 (imR (bsA (l ++ (Shp.mk s o ks).keyB))))] 2) := by
  simp only [Shp.keyW] at hl
  have hs := textB_len s (by omega)
  have ho := textB_len o (by omega)
  have hkl := keysW_len ks
  have hn := numB_len (ks.length : Int) (by omega) (by omega)
  have hkb := keysB_len ks (by omega)
  simp only [shT_mk]
  refine GCall.introG (nt := 30) (rs := []) Try.func40 rfl ⟨by kernel_rfl, by kernel_rfl, by kernel_rfl⟩ (by simp) ?_
  rintro ⟨P, w0, ok0, may, np, pblk⟩ rfl rfl
  simp only [go_sem]
  repeat' (first
    | ((show W _ _ _ _); first | (refine W.seq fun K hK => ?_) | refine W.block ?_ | (refine W.reg rfl ?_; simp only [go_sem, reduceCtorEq]) | (refine W.regD Try_mo rfl rfl ?_; simp only [go_sem, reduceCtorEq]) | (refine W.skip ?_; simp only [go_sem]) | (refine W.exit ?_; simp only [go_sem]) | (refine W.ret (Post.ret ?_); simp only [go_sem, reduceCtorEq]) | refine W.condT rfl ?_ | refine W.condF rfl ?_ | refine W.cond rfl (fun h => ?_) (fun h => ?_))
    | ((show AX _ _ _ _ _); first | (refine AX.pcall rfl rfl (by simp only [go_sem, unim_im]; rfl) (by solve_by_elim) rfl rfl ?_; simp only [go_sem, reduceCtorEq]) | (refine AX.pcallF rfl rfl (by simp only [go_sem, unim_im]; rfl) (by simp only [go_sem, unim_im]; rfl) (by solve_by_elim) rfl rfl ?_; simp only [go_sem, reduceCtorEq]) | (refine AX.lookup rfl (by first | exact tM65 | exact tM66) (by first | exact tG2 | exact tG3 | exact tG4 | exact tG5 | exact tG7 | exact tG9 | exact tG12 | exact tG13 | exact tG18 | exact tG19 | exact tG20 | exact tG21 | exact tG22 | exact tG23 | exact tG25 | exact tG26 | exact tG27 | exact tG34 | exact tG36 | exact tG37 | exact tG38 | exact tG46 | exact tG49 | exact tG50 | exact tG51 | exact tG58 | exact tG59 | exact tG65 | exact tG66 | exact tG69 | exact tG70 | exact tG72 | exact tG74 | exact tG75 | exact tG79 | exact tG80 | exact tG87 | exact tG90 | exact tG95 | exact tG96 | exact tG100 | exact tG103 | exact tG111 | exact tG117 | exact tG121 | exact tG128 | exact tG134 | exact tG142 | exact tG145 | exact tG148) (by first | exact kd9) rfl rfl rfl (by assumption) rfl ?_; simp only [go_sem, reduceCtorEq]) | (refine AX.mapUpdate rfl rfl (by first | exact tM65 | exact tM66) (by first | exact kd9) rfl rfl rfl (by assumption) rfl (by simp only [go_sem, reduceCtorEq]) ?_; simp only [go_sem, reduceCtorEq]) | (refine AX.makeMap rfl (by first | exact tM65 | exact tM66) rfl ?_; simp only [go_sem, reduceCtorEq]) | (refine AX.lenMap rfl (by first | exact tM65 | exact tM66) rfl rfl rfl ?_; simp only [go_sem, reduceCtorEq]) | (refine AX.range rfl (by first | exact tM65 | exact tM66) rfl rfl rfl ?_; simp only [go_sem, reduceCtorEq]) | (refine AX.appendStr rfl (by first | exact tL22 | exact tL23 | exact tL25 | exact tL34 | exact tL36 | exact tL50 | exact tL100) (by simp only [go_sem]) (by simp only [go_sem]) (by simp only [go_sem]) rfl rfl rfl rfl (by simp only [go_sem, reduceCtorEq]; first | omega | (simp; omega)) ?_; simp only [go_sem, reduceCtorEq]) | (refine AX.shr rfl rfl rfl rfl (by first | decide | omega) ?_; simp only [go_sem, reduceCtorEq]) | (refine AX.shl rfl rfl rfl rfl (by first | decide | omega) ?_; simp only [go_sem, reduceCtorEq]) | (refine AX.bits rfl rfl rfl (by assumption) rfl ?_; simp only [go_sem, reduceCtorEq]) | (refine AX.nilSl rfl (by first | exact tL22 | exact tL23 | exact tL25 | exact tL34 | exact tL36 | exact tL50 | exact tL100) (by first | exact .inl rfl | exact .inr rfl) rfl rfl rfl ?_; simp only [go_sem, reduceCtorEq]))
    | ((show indepK _ _ _ _ = true ∧ _); refine And.intro (by kernel_rfl) ?_)
    | ((show _ ∧ _); refine And.intro (by first | omega | assumption | (simp only [go_sem]; omega) | (simp; omega) | (simp; done)) ?_)
    | (refine hK _ ?_; clear hK K)
    | (clear hK K; refine hK _ ?_; clear hK K)
    | (clear hK K; clear hK K; refine hK _ ?_; clear hK K)
    | (clear hK K; clear hK K; clear hK K; refine hK _ ?_; clear hK K)
    | fail)
  refine AX.gcall [0, 1] rfl rfl (text_c l s (by omega)) (by simp only [go_sem, reduceCtorEq]) (by simp only [go_sem, reduceCtorEq]) rfl rfl (by simp only [go_sem, Obj.owns]) rfl (by simp only [go_sem, Obj.owns]) rfl rfl ?_
  simp only [go_sem, reduceCtorEq]
  repeat' (first
    | ((show W _ _ _ _); first | (refine W.seq fun K hK => ?_) | refine W.block ?_ | (refine W.reg rfl ?_; simp only [go_sem, reduceCtorEq]) | (refine W.regD Try_mo rfl rfl ?_; simp only [go_sem, reduceCtorEq]) | (refine W.skip ?_; simp only [go_sem]) | (refine W.exit ?_; simp only [go_sem]) | (refine W.ret (Post.ret ?_); simp only [go_sem, reduceCtorEq]) | refine W.condT rfl ?_ | refine W.condF rfl ?_ | refine W.cond rfl (fun h => ?_) (fun h => ?_))
    | ((show AX _ _ _ _ _); first | (refine AX.pcall rfl rfl (by simp only [go_sem, unim_im]; rfl) (by solve_by_elim) rfl rfl ?_; simp only [go_sem, reduceCtorEq]) | (refine AX.pcallF rfl rfl (by simp only [go_sem, unim_im]; rfl) (by simp only [go_sem, unim_im]; rfl) (by solve_by_elim) rfl rfl ?_; simp only [go_sem, reduceCtorEq]) | (refine AX.lookup rfl (by first | exact tM65 | exact tM66) (by first | exact tG2 | exact tG3 | exact tG4 | exact tG5 | exact tG7 | exact tG9 | exact tG12 | exact tG13 | exact tG18 | exact tG19 | exact tG20 | exact tG21 | exact tG22 | exact tG23 | exact tG25 | exact tG26 | exact tG27 | exact tG34 | exact tG36 | exact tG37 | exact tG38 | exact tG46 | exact tG49 | exact tG50 | exact tG51 | exact tG58 | exact tG59 | exact tG65 | exact tG66 | exact tG69 | exact tG70 | exact tG72 | exact tG74 | exact tG75 | exact tG79 | exact tG80 | exact tG87 | exact tG90 | exact tG95 | exact tG96 | exact tG100 | exact tG103 | exact tG111 | exact tG117 | exact tG121 | exact tG128 | exact tG134 | exact tG142 | exact tG145 | exact tG148) (by first | exact kd9) rfl rfl rfl (by assumption) rfl ?_; simp only [go_sem, reduceCtorEq]) | (refine AX.mapUpdate rfl rfl (by first | exact tM65 | exact tM66) (by first | exact kd9) rfl rfl rfl (by assumption) rfl (by simp only [go_sem, reduceCtorEq]) ?_; simp only [go_sem, reduceCtorEq]) | (refine AX.makeMap rfl (by first | exact tM65 | exact tM66) rfl ?_; simp only [go_sem, reduceCtorEq]) | (refine AX.lenMap rfl (by first | exact tM65 | exact tM66) rfl rfl rfl ?_; simp only [go_sem, reduceCtorEq]) | (refine AX.range rfl (by first | exact tM65 | exact tM66) rfl rfl rfl ?_; simp only [go_sem, reduceCtorEq]) | (refine AX.appendStr rfl (by first | exact tL22 | exact tL23 | exact tL25 | exact tL34 | exact tL36 | exact tL50 | exact tL100) (by simp only [go_sem]) (by simp only [go_sem]) (by simp only [go_sem]) rfl rfl rfl rfl (by simp only [go_sem, reduceCtorEq]; first | omega | (simp; omega)) ?_; simp only [go_sem, reduceCtorEq]) | (refine AX.shr rfl rfl rfl rfl (by first | decide | omega) ?_; simp only [go_sem, reduceCtorEq]) | (refine AX.shl rfl rfl rfl rfl (by first | decide | omega) ?_; simp only [go_sem, reduceCtorEq]) | (refine AX.bits rfl rfl rfl (by assumption) rfl ?_; simp only [go_sem, reduceCtorEq]) | (refine AX.nilSl rfl (by first | exact tL22 | exact tL23 | exact tL25 | exact tL34 | exact tL36 | exact tL50 | exact tL100) (by first | exact .inl rfl | exact .inr rfl) rfl rfl rfl ?_; simp only [go_sem, reduceCtorEq]))
    | ((show indepK _ _ _ _ = true ∧ _); refine And.intro (by kernel_rfl) ?_)
    | ((show _ ∧ _); refine And.intro (by first | omega | assumption | (simp only [go_sem]; omega) | (simp; omega) | (simp; done)) ?_)
    | (refine hK _ ?_; clear hK K)
    | (clear hK K; refine hK _ ?_; clear hK K)
    | (clear hK K; clear hK K; refine hK _ ?_; clear hK K)
    | (clear hK K; clear hK K; clear hK K; refine hK _ ?_; clear hK K)
    | fail)
  refine AX.gcall [0, 6] rfl rfl (text_c (l ++ textB s) o (by simp only [List.length_append]; omega)) (by simp only [go_sem, reduceCtorEq]) (by simp only [go_sem, reduceCtorEq]) rfl rfl (by simp only [go_sem, Obj.owns]) rfl (by simp only [go_sem, Obj.owns]) rfl rfl ?_
  simp only [go_sem, reduceCtorEq]
  repeat' (first
    | ((show W _ _ _ _); first | (refine W.seq fun K hK => ?_) | refine W.block ?_ | (refine W.reg rfl ?_; simp only [go_sem, reduceCtorEq, avs_len]) | (refine W.regD Try_mo rfl rfl ?_; simp only [go_sem, reduceCtorEq, avs_len]) | (refine W.skip ?_; simp only [go_sem]) | (refine W.exit ?_; simp only [go_sem]) | (refine W.ret (Post.ret ?_); simp only [go_sem, reduceCtorEq, avs_len]) | refine W.condT rfl ?_ | refine W.condF rfl ?_ | refine W.cond rfl (fun h => ?_) (fun h => ?_))
    | ((show AX _ _ _ _ _); first | (refine AX.pcall rfl rfl (by simp only [go_sem, unim_im]; rfl) (by solve_by_elim) rfl rfl ?_; simp only [go_sem, reduceCtorEq, avs_len]) | (refine AX.pcallF rfl rfl (by simp only [go_sem, unim_im]; rfl) (by simp only [go_sem, unim_im]; rfl) (by solve_by_elim) rfl rfl ?_; simp only [go_sem, reduceCtorEq, avs_len]) | (refine AX.lookup rfl (by first | exact tM65 | exact tM66) (by first | exact tG2 | exact tG3 | exact tG4 | exact tG5 | exact tG7 | exact tG9 | exact tG12 | exact tG13 | exact tG18 | exact tG19 | exact tG20 | exact tG21 | exact tG22 | exact tG23 | exact tG25 | exact tG26 | exact tG27 | exact tG34 | exact tG36 | exact tG37 | exact tG38 | exact tG46 | exact tG49 | exact tG50 | exact tG51 | exact tG58 | exact tG59 | exact tG65 | exact tG66 | exact tG69 | exact tG70 | exact tG72 | exact tG74 | exact tG75 | exact tG79 | exact tG80 | exact tG87 | exact tG90 | exact tG95 | exact tG96 | exact tG100 | exact tG103 | exact tG111 | exact tG117 | exact tG121 | exact tG128 | exact tG134 | exact tG142 | exact tG145 | exact tG148) (by first | exact kd9) rfl rfl rfl (by assumption) rfl ?_; simp only [go_sem, reduceCtorEq, avs_len]) | (refine AX.mapUpdate rfl rfl (by first | exact tM65 | exact tM66) (by first | exact kd9) rfl rfl rfl (by assumption) rfl (by simp only [go_sem, reduceCtorEq, avs_len]) ?_; simp only [go_sem, reduceCtorEq, avs_len]) | (refine AX.makeMap rfl (by first | exact tM65 | exact tM66) rfl ?_; simp only [go_sem, reduceCtorEq, avs_len]) | (refine AX.lenMap rfl (by first | exact tM65 | exact tM66) rfl rfl rfl ?_; simp only [go_sem, reduceCtorEq, avs_len]) | (refine AX.range rfl (by first | exact tM65 | exact tM66) rfl rfl rfl ?_; simp only [go_sem, reduceCtorEq, avs_len]) | (refine AX.appendStr rfl (by first | exact tL22 | exact tL23 | exact tL25 | exact tL34 | exact tL36 | exact tL50 | exact tL100) (by simp only [go_sem]) (by simp only [go_sem]) (by simp only [go_sem]) rfl rfl rfl rfl (by simp only [go_sem, reduceCtorEq, avs_len]; first | omega | (simp; omega)) ?_; simp only [go_sem, reduceCtorEq, avs_len]) | (refine AX.shr rfl rfl rfl rfl (by first | decide | omega) ?_; simp only [go_sem, reduceCtorEq, avs_len]) | (refine AX.shl rfl rfl rfl rfl (by first | decide | omega) ?_; simp only [go_sem, reduceCtorEq, avs_len]) | (refine AX.bits rfl rfl rfl (by assumption) rfl ?_; simp only [go_sem, reduceCtorEq, avs_len]) | (refine AX.nilSl rfl (by first | exact tL22 | exact tL23 | exact tL25 | exact tL34 | exact tL36 | exact tL50 | exact tL100) (by first | exact .inl rfl | exact .inr rfl) rfl rfl rfl ?_; simp only [go_sem, reduceCtorEq, avs_len]))
    | ((show indepK _ _ _ _ = true ∧ _); refine And.intro (by kernel_rfl) ?_)
    | ((show _ ∧ _); refine And.intro (by first | omega | assumption | (simp only [go_sem]; omega) | (simp; omega) | (simp; done)) ?_)
    | (refine hK _ ?_; clear hK K)
    | (clear hK K; refine hK _ ?_; clear hK K)
    | (clear hK K; clear hK K; refine hK _ ?_; clear hK K)
    | (clear hK K; clear hK K; clear hK K; refine hK _ ?_; clear hK K)
    | fail)
  refine AX.gcall [0, 10] rfl rfl (number_c (l ++ textB s ++ textB o) (ks.length : Int) (by omega) (by omega) (by simp only [List.length_append]; omega)) (by simp only [go_sem, reduceCtorEq]) (by simp only [go_sem, reduceCtorEq]) rfl rfl (by simp only [go_sem, Obj.owns]) rfl (by simp only [go_sem, Obj.owns]) rfl rfl ?_
  simp only [go_sem, reduceCtorEq]
  repeat' (first
    | ((show W _ _ _ _); first | (refine W.seq fun K hK => ?_) | refine W.block ?_ | (refine W.reg rfl ?_; simp only [go_sem, reduceCtorEq, avs_len]) | (refine W.regD Try_mo rfl rfl ?_; simp only [go_sem, reduceCtorEq, avs_len]) | (refine W.skip ?_; simp only [go_sem]) | (refine W.exit ?_; simp only [go_sem]) | (refine W.ret (Post.ret ?_); simp only [go_sem, reduceCtorEq, avs_len]) | refine W.condT rfl ?_ | refine W.condF rfl ?_ | refine W.cond rfl (fun h => ?_) (fun h => ?_))
    | ((show AX _ _ _ _ _); first | (refine AX.pcall rfl rfl (by simp only [go_sem, unim_im]; rfl) (by solve_by_elim) rfl rfl ?_; simp only [go_sem, reduceCtorEq, avs_len]) | (refine AX.pcallF rfl rfl (by simp only [go_sem, unim_im]; rfl) (by simp only [go_sem, unim_im]; rfl) (by solve_by_elim) rfl rfl ?_; simp only [go_sem, reduceCtorEq, avs_len]) | (refine AX.lookup rfl (by first | exact tM65 | exact tM66) (by first | exact tG2 | exact tG3 | exact tG4 | exact tG5 | exact tG7 | exact tG9 | exact tG12 | exact tG13 | exact tG18 | exact tG19 | exact tG20 | exact tG21 | exact tG22 | exact tG23 | exact tG25 | exact tG26 | exact tG27 | exact tG34 | exact tG36 | exact tG37 | exact tG38 | exact tG46 | exact tG49 | exact tG50 | exact tG51 | exact tG58 | exact tG59 | exact tG65 | exact tG66 | exact tG69 | exact tG70 | exact tG72 | exact tG74 | exact tG75 | exact tG79 | exact tG80 | exact tG87 | exact tG90 | exact tG95 | exact tG96 | exact tG100 | exact tG103 | exact tG111 | exact tG117 | exact tG121 | exact tG128 | exact tG134 | exact tG142 | exact tG145 | exact tG148) (by first | exact kd9) rfl rfl rfl (by assumption) rfl ?_; simp only [go_sem, reduceCtorEq, avs_len]) | (refine AX.mapUpdate rfl rfl (by first | exact tM65 | exact tM66) (by first | exact kd9) rfl rfl rfl (by assumption) rfl (by simp only [go_sem, reduceCtorEq, avs_len]) ?_; simp only [go_sem, reduceCtorEq, avs_len]) | (refine AX.makeMap rfl (by first | exact tM65 | exact tM66) rfl ?_; simp only [go_sem, reduceCtorEq, avs_len]) | (refine AX.lenMap rfl (by first | exact tM65 | exact tM66) rfl rfl rfl ?_; simp only [go_sem, reduceCtorEq, avs_len]) | (refine AX.range rfl (by first | exact tM65 | exact tM66) rfl rfl rfl ?_; simp only [go_sem, reduceCtorEq, avs_len]) | (refine AX.appendStr rfl (by first | exact tL22 | exact tL23 | exact tL25 | exact tL34 | exact tL36 | exact tL50 | exact tL100) (by simp only [go_sem]) (by simp only [go_sem]) (by simp only [go_sem]) rfl rfl rfl rfl (by simp only [go_sem, reduceCtorEq, avs_len]; first | omega | (simp; omega)) ?_; simp only [go_sem, reduceCtorEq, avs_len]) | (refine AX.shr rfl rfl rfl rfl (by first | decide | omega) ?_; simp only [go_sem, reduceCtorEq, avs_len]) | (refine AX.shl rfl rfl rfl rfl (by first | decide | omega) ?_; simp only [go_sem, reduceCtorEq, avs_len]) | (refine AX.bits rfl rfl rfl (by assumption) rfl ?_; simp only [go_sem, reduceCtorEq, avs_len]) | (refine AX.nilSl rfl (by first | exact tL22 | exact tL23 | exact tL25 | exact tL34 | exact tL36 | exact tL50 | exact tL100) (by first | exact .inl rfl | exact .inr rfl) rfl rfl rfl ?_; simp only [go_sem, reduceCtorEq, avs_len]))
    | ((show indepK _ _ _ _ = true ∧ _); refine And.intro (by kernel_rfl) ?_)
    | ((show _ ∧ _); refine And.intro (by first | omega | assumption | (simp only [go_sem]; omega) | (simp; omega) | (simp; done)) ?_)
    | (refine hK _ ?_; clear hK K)
    | (clear hK K; refine hK _ ?_; clear hK K)
    | (clear hK K; clear hK K; refine hK _ ?_; clear hK K)
    | (clear hK K; clear hK K; clear hK K; refine hK _ ?_; clear hK K)
    | fail)
  refine W.loopF (T := fun i : Nat => { t := [(0, .c (.ptr 0 0)), (20, .c (.im (.sl 27 (avs ks)))), (21, ft (.int .i64 ks.length)), (22, ft (.int .i64 (i : Nat)))], h := [(0, .box 70 [.ref 1]), (1, .row 5 (imR (bsA (l ++ textB s ++ textB o ++ numB (ks.length : Int) ++ keysB (ks.take i)))))], nx := 2, ex := [], nt := 30 })
    (Inv := fun i => i ≤ ks.length) (μ := fun i => ks.length - i) (x0 := 0) (Fits.fit [(0, 0), (15, 1)] [0, 20, 21, 22] 2 rfl rfl ?_) (Nat.zero_le _) ?_
  · simp only [go_sem, keysB, List.append_nil]
    exact Fits.rfl
  intro i hi KL hKL
  by_cases hlt : i < ks.length
  · obtain ⟨⟨s', o', ks'⟩, hx, hm, hd⟩ := drop_at hlt
    have e1 : decide ((i : Int) < ks.length) = true := by simp; omega
    have hw := w64s i (by omega)
    have hW := keysW_take hx
    have hkb2 := keysB_len (ks.take i) (by omega)
    have hc := ih _ hm (l ++ textB s ++ textB o ++ numB (ks.length : Int) ++ keysB (ks.take i)) (by simp only [List.length_append]; omega)
    simp only [shT_mk] at hc
    repeat' (first
      | ((show W _ _ _ _); first | (refine W.seq fun K hK => ?_) | refine W.block ?_ | (refine W.reg rfl ?_; simp only [go_sem, reduceCtorEq, e1, hw, avs_get, hx, Shp.av]) | (refine W.regD Try_mo rfl rfl ?_; simp only [go_sem, reduceCtorEq, e1, hw, avs_get, hx, Shp.av]) | (refine W.skip ?_; simp only [go_sem]) | (refine W.exit ?_; simp only [go_sem]) | (refine W.ret (Post.ret ?_); simp only [go_sem, reduceCtorEq, e1, hw, avs_get, hx, Shp.av]) | refine W.condT rfl ?_ | refine W.condF rfl ?_ | refine W.cond rfl (fun h => ?_) (fun h => ?_))
      | ((show AX _ _ _ _ _); first | (refine AX.pcall rfl rfl (by simp only [go_sem, unim_im]; rfl) (by solve_by_elim) rfl rfl ?_; simp only [go_sem, reduceCtorEq, e1, hw, avs_get, hx, Shp.av]) | (refine AX.pcallF rfl rfl (by simp only [go_sem, unim_im]; rfl) (by simp only [go_sem, unim_im]; rfl) (by solve_by_elim) rfl rfl ?_; simp only [go_sem, reduceCtorEq, e1, hw, avs_get, hx, Shp.av]) | (refine AX.lookup rfl (by first | exact tM65 | exact tM66) (by first | exact tG2 | exact tG3 | exact tG4 | exact tG5 | exact tG7 | exact tG9 | exact tG12 | exact tG13 | exact tG18 | exact tG19 | exact tG20 | exact tG21 | exact tG22 | exact tG23 | exact tG25 | exact tG26 | exact tG27 | exact tG34 | exact tG36 | exact tG37 | exact tG38 | exact tG46 | exact tG49 | exact tG50 | exact tG51 | exact tG58 | exact tG59 | exact tG65 | exact tG66 | exact tG69 | exact tG70 | exact tG72 | exact tG74 | exact tG75 | exact tG79 | exact tG80 | exact tG87 | exact tG90 | exact tG95 | exact tG96 | exact tG100 | exact tG103 | exact tG111 | exact tG117 | exact tG121 | exact tG128 | exact tG134 | exact tG142 | exact tG145 | exact tG148) (by first | exact kd9) rfl rfl rfl (by assumption) rfl ?_; simp only [go_sem, reduceCtorEq, e1, hw, avs_get, hx, Shp.av]) | (refine AX.mapUpdate rfl rfl (by first | exact tM65 | exact tM66) (by first | exact kd9) rfl rfl rfl (by assumption) rfl (by simp only [go_sem, reduceCtorEq, e1, hw, avs_get, hx, Shp.av]) ?_; simp only [go_sem, reduceCtorEq, e1, hw, avs_get, hx, Shp.av]) | (refine AX.makeMap rfl (by first | exact tM65 | exact tM66) rfl ?_; simp only [go_sem, reduceCtorEq, e1, hw, avs_get, hx, Shp.av]) | (refine AX.lenMap rfl (by first | exact tM65 | exact tM66) rfl rfl rfl ?_; simp only [go_sem, reduceCtorEq, e1, hw, avs_get, hx, Shp.av]) | (refine AX.range rfl (by first | exact tM65 | exact tM66) rfl rfl rfl ?_; simp only [go_sem, reduceCtorEq, e1, hw, avs_get, hx, Shp.av]) | (refine AX.appendStr rfl (by first | exact tL22 | exact tL23 | exact tL25 | exact tL34 | exact tL36 | exact tL50 | exact tL100) (by simp only [go_sem]) (by simp only [go_sem]) (by simp only [go_sem]) rfl rfl rfl rfl (by simp only [go_sem, reduceCtorEq, e1, hw, avs_get, hx, Shp.av]; first | omega | (simp; omega)) ?_; simp only [go_sem, reduceCtorEq, e1, hw, avs_get, hx, Shp.av]) | (refine AX.shr rfl rfl rfl rfl (by first | decide | omega) ?_; simp only [go_sem, reduceCtorEq, e1, hw, avs_get, hx, Shp.av]) | (refine AX.shl rfl rfl rfl rfl (by first | decide | omega) ?_; simp only [go_sem, reduceCtorEq, e1, hw, avs_get, hx, Shp.av]) | (refine AX.bits rfl rfl rfl (by assumption) rfl ?_; simp only [go_sem, reduceCtorEq, e1, hw, avs_get, hx, Shp.av]) | (refine AX.nilSl rfl (by first | exact tL22 | exact tL23 | exact tL25 | exact tL34 | exact tL36 | exact tL50 | exact tL100) (by first | exact .inl rfl | exact .inr rfl) rfl rfl rfl ?_; simp only [go_sem, reduceCtorEq, e1, hw, avs_get, hx, Shp.av]))
      | ((show indepK _ _ _ _ = true ∧ _); refine And.intro (by kernel_rfl) ?_)
      | ((show _ ∧ _); refine And.intro (by first | omega | assumption | (simp only [go_sem]; omega) | (simp; omega) | (simp; done)) ?_)
      | (refine hK _ ?_; clear hK K)
      | (clear hK K; refine hK _ ?_; clear hK K)
      | (clear hK K; clear hK K; refine hK _ ?_; clear hK K)
      | (clear hK K; clear hK K; clear hK K; refine hK _ ?_; clear hK K)
      | fail)
    refine AX.gcall [0, 1] rfl rfl (hc) (by simp only [go_sem, reduceCtorEq]) (by simp only [go_sem, reduceCtorEq]) rfl rfl (by simp only [go_sem, Obj.owns]) rfl (by simp only [go_sem, Obj.owns]) rfl rfl ?_
    simp only [go_sem, reduceCtorEq]
    repeat' (first
      | ((show W _ _ _ _); first | (refine W.seq fun K hK => ?_) | refine W.block ?_ | (refine W.reg rfl ?_; simp only [go_sem, reduceCtorEq, hw]) | (refine W.regD Try_mo rfl rfl ?_; simp only [go_sem, reduceCtorEq, hw]) | (refine W.skip ?_; simp only [go_sem]) | (refine W.exit ?_; simp only [go_sem]) | (refine W.ret (Post.ret ?_); simp only [go_sem, reduceCtorEq, hw]) | refine W.condT rfl ?_ | refine W.condF rfl ?_ | refine W.cond rfl (fun h => ?_) (fun h => ?_))
      | ((show AX _ _ _ _ _); first | (refine AX.pcall rfl rfl (by simp only [go_sem, unim_im]; rfl) (by solve_by_elim) rfl rfl ?_; simp only [go_sem, reduceCtorEq, hw]) | (refine AX.pcallF rfl rfl (by simp only [go_sem, unim_im]; rfl) (by simp only [go_sem, unim_im]; rfl) (by solve_by_elim) rfl rfl ?_; simp only [go_sem, reduceCtorEq, hw]) | (refine AX.lookup rfl (by first | exact tM65 | exact tM66) (by first | exact tG2 | exact tG3 | exact tG4 | exact tG5 | exact tG7 | exact tG9 | exact tG12 | exact tG13 | exact tG18 | exact tG19 | exact tG20 | exact tG21 | exact tG22 | exact tG23 | exact tG25 | exact tG26 | exact tG27 | exact tG34 | exact tG36 | exact tG37 | exact tG38 | exact tG46 | exact tG49 | exact tG50 | exact tG51 | exact tG58 | exact tG59 | exact tG65 | exact tG66 | exact tG69 | exact tG70 | exact tG72 | exact tG74 | exact tG75 | exact tG79 | exact tG80 | exact tG87 | exact tG90 | exact tG95 | exact tG96 | exact tG100 | exact tG103 | exact tG111 | exact tG117 | exact tG121 | exact tG128 | exact tG134 | exact tG142 | exact tG145 | exact tG148) (by first | exact kd9) rfl rfl rfl (by assumption) rfl ?_; simp only [go_sem, reduceCtorEq, hw]) | (refine AX.mapUpdate rfl rfl (by first | exact tM65 | exact tM66) (by first | exact kd9) rfl rfl rfl (by assumption) rfl (by simp only [go_sem, reduceCtorEq, hw]) ?_; simp only [go_sem, reduceCtorEq, hw]) | (refine AX.makeMap rfl (by first | exact tM65 | exact tM66) rfl ?_; simp only [go_sem, reduceCtorEq, hw]) | (refine AX.lenMap rfl (by first | exact tM65 | exact tM66) rfl rfl rfl ?_; simp only [go_sem, reduceCtorEq, hw]) | (refine AX.range rfl (by first | exact tM65 | exact tM66) rfl rfl rfl ?_; simp only [go_sem, reduceCtorEq, hw]) | (refine AX.appendStr rfl (by first | exact tL22 | exact tL23 | exact tL25 | exact tL34 | exact tL36 | exact tL50 | exact tL100) (by simp only [go_sem]) (by simp only [go_sem]) (by simp only [go_sem]) rfl rfl rfl rfl (by simp only [go_sem, reduceCtorEq, hw]; first | omega | (simp; omega)) ?_; simp only [go_sem, reduceCtorEq, hw]) | (refine AX.shr rfl rfl rfl rfl (by first | decide | omega) ?_; simp only [go_sem, reduceCtorEq, hw]) | (refine AX.shl rfl rfl rfl rfl (by first | decide | omega) ?_; simp only [go_sem, reduceCtorEq, hw]) | (refine AX.bits rfl rfl rfl (by assumption) rfl ?_; simp only [go_sem, reduceCtorEq, hw]) | (refine AX.nilSl rfl (by first | exact tL22 | exact tL23 | exact tL25 | exact tL34 | exact tL36 | exact tL50 | exact tL100) (by first | exact .inl rfl | exact .inr rfl) rfl rfl rfl ?_; simp only [go_sem, reduceCtorEq, hw]))
      | ((show indepK _ _ _ _ = true ∧ _); refine And.intro (by kernel_rfl) ?_)
      | ((show _ ∧ _); refine And.intro (by first | omega | assumption | (simp only [go_sem]; omega) | (simp; omega) | (simp; done)) ?_)
      | (refine hK _ ?_; clear hK K)
      | (clear hK K; refine hK _ ?_; clear hK K)
      | (clear hK K; clear hK K; refine hK _ ?_; clear hK K)
      | (clear hK K; clear hK K; clear hK K; refine hK _ ?_; clear hK K)
      | fail)
    refine hKL.to (i + 1) (by omega) (by omega) (Fits.fit [(0, 0), (9, 1)] [0, 20, 21, 22] 2 rfl rfl ?_)
    simp only [go_sem, take_at hx, keysB_app, keysB, List.append_assoc, List.append_nil]
    exact Fits.rfl
  · have e1 : decide ((i : Int) < ks.length) = false := by simp; omega
    obtain rfl : i = ks.length := by omega
    clear hKL
    repeat' (first
      | ((show W _ _ _ _); first | (refine W.seq fun K hK => ?_) | refine W.block ?_ | (refine W.reg rfl ?_; simp only [go_sem, reduceCtorEq, e1]) | (refine W.regD Try_mo rfl rfl ?_; simp only [go_sem, reduceCtorEq, e1]) | (refine W.skip ?_; simp only [go_sem]) | (refine W.exit ?_; simp only [go_sem]) | (refine W.ret (Post.ret ?_); simp only [go_sem, reduceCtorEq, e1]) | refine W.condT rfl ?_ | refine W.condF rfl ?_ | refine W.cond rfl (fun h => ?_) (fun h => ?_))
      | ((show AX _ _ _ _ _); first | (refine AX.pcall rfl rfl (by simp only [go_sem, unim_im]; rfl) (by solve_by_elim) rfl rfl ?_; simp only [go_sem, reduceCtorEq, e1]) | (refine AX.pcallF rfl rfl (by simp only [go_sem, unim_im]; rfl) (by simp only [go_sem, unim_im]; rfl) (by solve_by_elim) rfl rfl ?_; simp only [go_sem, reduceCtorEq, e1]) | (refine AX.lookup rfl (by first | exact tM65 | exact tM66) (by first | exact tG2 | exact tG3 | exact tG4 | exact tG5 | exact tG7 | exact tG9 | exact tG12 | exact tG13 | exact tG18 | exact tG19 | exact tG20 | exact tG21 | exact tG22 | exact tG23 | exact tG25 | exact tG26 | exact tG27 | exact tG34 | exact tG36 | exact tG37 | exact tG38 | exact tG46 | exact tG49 | exact tG50 | exact tG51 | exact tG58 | exact tG59 | exact tG65 | exact tG66 | exact tG69 | exact tG70 | exact tG72 | exact tG74 | exact tG75 | exact tG79 | exact tG80 | exact tG87 | exact tG90 | exact tG95 | exact tG96 | exact tG100 | exact tG103 | exact tG111 | exact tG117 | exact tG121 | exact tG128 | exact tG134 | exact tG142 | exact tG145 | exact tG148) (by first | exact kd9) rfl rfl rfl (by assumption) rfl ?_; simp only [go_sem, reduceCtorEq, e1]) | (refine AX.mapUpdate rfl rfl (by first | exact tM65 | exact tM66) (by first | exact kd9) rfl rfl rfl (by assumption) rfl (by simp only [go_sem, reduceCtorEq, e1]) ?_; simp only [go_sem, reduceCtorEq, e1]) | (refine AX.makeMap rfl (by first | exact tM65 | exact tM66) rfl ?_; simp only [go_sem, reduceCtorEq, e1]) | (refine AX.lenMap rfl (by first | exact tM65 | exact tM66) rfl rfl rfl ?_; simp only [go_sem, reduceCtorEq, e1]) | (refine AX.range rfl (by first | exact tM65 | exact tM66) rfl rfl rfl ?_; simp only [go_sem, reduceCtorEq, e1]) | (refine AX.appendStr rfl (by first | exact tL22 | exact tL23 | exact tL25 | exact tL34 | exact tL36 | exact tL50 | exact tL100) (by simp only [go_sem]) (by simp only [go_sem]) (by simp only [go_sem]) rfl rfl rfl rfl (by simp only [go_sem, reduceCtorEq, e1]; first | omega | (simp; omega)) ?_; simp only [go_sem, reduceCtorEq, e1]) | (refine AX.shr rfl rfl rfl rfl (by first | decide | omega) ?_; simp only [go_sem, reduceCtorEq, e1]) | (refine AX.shl rfl rfl rfl rfl (by first | decide | omega) ?_; simp only [go_sem, reduceCtorEq, e1]) | (refine AX.bits rfl rfl rfl (by assumption) rfl ?_; simp only [go_sem, reduceCtorEq, e1]) | (refine AX.nilSl rfl (by first | exact tL22 | exact tL23 | exact tL25 | exact tL34 | exact tL36 | exact tL50 | exact tL100) (by first | exact .inl rfl | exact .inr rfl) rfl rfl rfl ?_; simp only [go_sem, reduceCtorEq, e1]))
      | ((show indepK _ _ _ _ = true ∧ _); refine And.intro (by kernel_rfl) ?_)
      | ((show _ ∧ _); refine And.intro (by first | omega | assumption | (simp only [go_sem]; omega) | (simp; omega) | (simp; done)) ?_)
      | (refine hK _ ?_; clear hK K)
      | (clear hK K; refine hK _ ?_; clear hK K)
      | (clear hK K; clear hK K; refine hK _ ?_; clear hK K)
      | (clear hK K; clear hK K; clear hK K; refine hK _ ?_; clear hK K)
      | fail)
    refine PostG.normal (Fits.fit [(0, 0), (1, 1)] [] 2 rfl rfl Fits.rfl) rfl rfl ?_
    simp only [St.r, go_sem, List.take_length, Shp.keyB, List.append_assoc]
theorem write_all : ∀ (x : Shp) (l : List UInt8), l.length + x.keyW ≤ 140737488355328 → GCall Try.prog 40 1 (St.g [.c (.ptr 0 0), shT x] [(0, .box 70 [.ref 1]), (1, .row 5 (imR (bsA l)))] 2) (St.r (.t []) [(0, .box 70 [.ref 1]), (1, .row 5 (imR (bsA (l ++ x.keyB))))] 2)
  | .mk s o ks, l, hl => write_c s o ks l hl fun x hx l hl => write_all x l hl
termination_by x => SizeOf.sizeOf x
decreasing_by
  have := List.sizeOf_lt_of_mem hx
  simp only [Shp.mk.sizeOf_spec]
  omega
theorem wr_nil {f : Nat} {args : List TV} {q : St} (h : GCall Try.prog f 1 (St.g args [(0, .box 70 [.ref 1]), (1, .row 5 (imR (bsA [])))] 2) q) : GCall Try.prog f 1 (St.g args [(0, .box 70 [fl (.slice none 0 0)])] 1) q := by
  refine h.fits ?_
  rintro ⟨P, w0, ok0, may, np, pblk⟩ rfl rfl
  simp only [St.g]
  refine Fits.adoptB 0 70 _ 0 1 5 rfl rfl rfl rfl tE5 rfl ?_
  simp only [go_sem, List.set_cons_zero, bsA_nil, imR_nil]
  exact Fits.swap rfl Fits.rfl
theorem key_c (x : Shp) (c12 : PCall Try.prog 12 [shT x] (shT x.canon)) (hl : x.canon.keyW ≤ 140737488355328) : PCall Try.prog 26 [shT x] (ft (.string ⟨x.canon.keyB.toArray⟩)) := by
  have hw := wr_nil (write_all x.canon [] (by simpa using hl))
  rw [List.nil_append] at hw
  generalize x.canon = y at *
  obtain ⟨s, o, ks⟩ := x
  obtain ⟨s', o', ks'⟩ := y
  simp only [shT_mk] at *
  refine PCall.intro (nt := 8) (rs := [.tmp 2]) Try.func26 rfl ⟨by kernel_rfl, by kernel_rfl, by kernel_rfl⟩ (by simp) ?_
  rintro ⟨P, w0, ok0, may, np, pblk⟩ rfl rfl
  repeat' (first
    | ((show W _ _ _ _); first | (refine W.seq fun K hK => ?_) | refine W.block ?_ | (refine W.reg rfl ?_; simp only [go_sem, reduceCtorEq]) | (refine W.regD Try_mo rfl rfl ?_; simp only [go_sem, reduceCtorEq]) | (refine W.skip ?_; simp only [go_sem]) | (refine W.exit ?_; simp only [go_sem]) | (refine W.ret (Post.ret ?_); simp only [go_sem, reduceCtorEq]) | refine W.condT rfl ?_ | refine W.condF rfl ?_ | refine W.cond rfl (fun h => ?_) (fun h => ?_))
    | ((show AX _ _ _ _ _); first | (refine AX.pcall rfl rfl (by simp only [go_sem, unim_im]; rfl) (by solve_by_elim) rfl rfl ?_; simp only [go_sem, reduceCtorEq]) | (refine AX.pcallF rfl rfl (by simp only [go_sem, unim_im]; rfl) (by simp only [go_sem, unim_im]; rfl) (by solve_by_elim) rfl rfl ?_; simp only [go_sem, reduceCtorEq]) | (refine AX.lookup rfl (by first | exact tM65 | exact tM66) (by first | exact tG2 | exact tG3 | exact tG4 | exact tG5 | exact tG7 | exact tG9 | exact tG12 | exact tG13 | exact tG18 | exact tG19 | exact tG20 | exact tG21 | exact tG22 | exact tG23 | exact tG25 | exact tG26 | exact tG27 | exact tG34 | exact tG36 | exact tG37 | exact tG38 | exact tG46 | exact tG49 | exact tG50 | exact tG51 | exact tG58 | exact tG59 | exact tG65 | exact tG66 | exact tG69 | exact tG70 | exact tG72 | exact tG74 | exact tG75 | exact tG79 | exact tG80 | exact tG87 | exact tG90 | exact tG95 | exact tG96 | exact tG100 | exact tG103 | exact tG111 | exact tG117 | exact tG121 | exact tG128 | exact tG134 | exact tG142 | exact tG145 | exact tG148) (by first | exact kd9) rfl rfl rfl (by assumption) rfl ?_; simp only [go_sem, reduceCtorEq]) | (refine AX.mapUpdate rfl rfl (by first | exact tM65 | exact tM66) (by first | exact kd9) rfl rfl rfl (by assumption) rfl (by simp only [go_sem, reduceCtorEq]) ?_; simp only [go_sem, reduceCtorEq]) | (refine AX.makeMap rfl (by first | exact tM65 | exact tM66) rfl ?_; simp only [go_sem, reduceCtorEq]) | (refine AX.lenMap rfl (by first | exact tM65 | exact tM66) rfl rfl rfl ?_; simp only [go_sem, reduceCtorEq]) | (refine AX.range rfl (by first | exact tM65 | exact tM66) rfl rfl rfl ?_; simp only [go_sem, reduceCtorEq]) | (refine AX.appendStr rfl (by first | exact tL22 | exact tL23 | exact tL25 | exact tL34 | exact tL36 | exact tL50 | exact tL100) (by simp only [go_sem]) (by simp only [go_sem]) (by simp only [go_sem]) rfl rfl rfl rfl (by simp only [go_sem, reduceCtorEq]; first | omega | (simp; omega)) ?_; simp only [go_sem, reduceCtorEq]) | (refine AX.shr rfl rfl rfl rfl (by first | decide | omega) ?_; simp only [go_sem, reduceCtorEq]) | (refine AX.shl rfl rfl rfl rfl (by first | decide | omega) ?_; simp only [go_sem, reduceCtorEq]) | (refine AX.bits rfl rfl rfl (by assumption) rfl ?_; simp only [go_sem, reduceCtorEq]) | (refine AX.nilSl rfl (by first | exact tL22 | exact tL23 | exact tL25 | exact tL34 | exact tL36 | exact tL50 | exact tL100) (by first | exact .inl rfl | exact .inr rfl) rfl rfl rfl ?_; simp only [go_sem, reduceCtorEq]))
    | ((show indepK _ _ _ _ = true ∧ _); refine And.intro (by kernel_rfl) ?_)
    | ((show _ ∧ _); refine And.intro (by first | omega | assumption | (simp only [go_sem]; omega) | (simp; omega) | (simp; done)) ?_)
    | (refine hK _ ?_; clear hK K)
    | (clear hK K; refine hK _ ?_; clear hK K)
    | (clear hK K; clear hK K; refine hK _ ?_; clear hK K)
    | (clear hK K; clear hK K; clear hK K; refine hK _ ?_; clear hK K)
    | fail)
  refine AX.gcall [2] rfl rfl (hw) (by simp only [go_sem, reduceCtorEq]) (by simp only [go_sem, reduceCtorEq]) rfl rfl (by simp only [go_sem, Obj.owns]) rfl (by simp only [go_sem, Obj.owns]) rfl rfl ?_
  simp only [go_sem, reduceCtorEq]
  repeat' (first
    | ((show W _ _ _ _); first | (refine W.seq fun K hK => ?_) | refine W.block ?_ | (refine W.reg rfl ?_; simp only [go_sem, reduceCtorEq]) | (refine W.regD Try_mo rfl rfl ?_; simp only [go_sem, reduceCtorEq]) | (refine W.skip ?_; simp only [go_sem]) | (refine W.exit ?_; simp only [go_sem]) | (refine W.ret (Post.ret ?_); simp only [go_sem, reduceCtorEq]) | refine W.condT rfl ?_ | refine W.condF rfl ?_ | refine W.cond rfl (fun h => ?_) (fun h => ?_))
    | ((show AX _ _ _ _ _); first | (refine AX.pcall rfl rfl (by simp only [go_sem, unim_im]; rfl) (by solve_by_elim) rfl rfl ?_; simp only [go_sem, reduceCtorEq]) | (refine AX.pcallF rfl rfl (by simp only [go_sem, unim_im]; rfl) (by simp only [go_sem, unim_im]; rfl) (by solve_by_elim) rfl rfl ?_; simp only [go_sem, reduceCtorEq]) | (refine AX.lookup rfl (by first | exact tM65 | exact tM66) (by first | exact tG2 | exact tG3 | exact tG4 | exact tG5 | exact tG7 | exact tG9 | exact tG12 | exact tG13 | exact tG18 | exact tG19 | exact tG20 | exact tG21 | exact tG22 | exact tG23 | exact tG25 | exact tG26 | exact tG27 | exact tG34 | exact tG36 | exact tG37 | exact tG38 | exact tG46 | exact tG49 | exact tG50 | exact tG51 | exact tG58 | exact tG59 | exact tG65 | exact tG66 | exact tG69 | exact tG70 | exact tG72 | exact tG74 | exact tG75 | exact tG79 | exact tG80 | exact tG87 | exact tG90 | exact tG95 | exact tG96 | exact tG100 | exact tG103 | exact tG111 | exact tG117 | exact tG121 | exact tG128 | exact tG134 | exact tG142 | exact tG145 | exact tG148) (by first | exact kd9) rfl rfl rfl (by assumption) rfl ?_; simp only [go_sem, reduceCtorEq]) | (refine AX.mapUpdate rfl rfl (by first | exact tM65 | exact tM66) (by first | exact kd9) rfl rfl rfl (by assumption) rfl (by simp only [go_sem, reduceCtorEq]) ?_; simp only [go_sem, reduceCtorEq]) | (refine AX.makeMap rfl (by first | exact tM65 | exact tM66) rfl ?_; simp only [go_sem, reduceCtorEq]) | (refine AX.lenMap rfl (by first | exact tM65 | exact tM66) rfl rfl rfl ?_; simp only [go_sem, reduceCtorEq]) | (refine AX.range rfl (by first | exact tM65 | exact tM66) rfl rfl rfl ?_; simp only [go_sem, reduceCtorEq]) | (refine AX.appendStr rfl (by first | exact tL22 | exact tL23 | exact tL25 | exact tL34 | exact tL36 | exact tL50 | exact tL100) (by simp only [go_sem]) (by simp only [go_sem]) (by simp only [go_sem]) rfl rfl rfl rfl (by simp only [go_sem, reduceCtorEq]; first | omega | (simp; omega)) ?_; simp only [go_sem, reduceCtorEq]) | (refine AX.shr rfl rfl rfl rfl (by first | decide | omega) ?_; simp only [go_sem, reduceCtorEq]) | (refine AX.shl rfl rfl rfl rfl (by first | decide | omega) ?_; simp only [go_sem, reduceCtorEq]) | (refine AX.bits rfl rfl rfl (by assumption) rfl ?_; simp only [go_sem, reduceCtorEq]) | (refine AX.nilSl rfl (by first | exact tL22 | exact tL23 | exact tL25 | exact tL34 | exact tL36 | exact tL50 | exact tL100) (by first | exact .inl rfl | exact .inr rfl) rfl rfl rfl ?_; simp only [go_sem, reduceCtorEq]))
    | ((show indepK _ _ _ _ = true ∧ _); refine And.intro (by kernel_rfl) ?_)
    | ((show _ ∧ _); refine And.intro (by first | omega | assumption | (simp only [go_sem]; omega) | (simp; omega) | (simp; done)) ?_)
    | (refine hK _ ?_; clear hK K)
    | (clear hK K; refine hK _ ?_; clear hK K)
    | (clear hK K; clear hK K; refine hK _ ?_; clear hK K)
    | (clear hK K; clear hK K; clear hK K; refine hK _ ?_; clear hK K)
    | fail)
  refine AX.gcall [2, 5] rfl rfl (bytes_c (Shp.keyB (.mk s' o' ks'))) (by simp only [go_sem, reduceCtorEq]) (by simp only [go_sem, reduceCtorEq]) rfl rfl (by simp only [go_sem, Obj.owns]) rfl (by simp only [go_sem, Obj.owns]) rfl rfl ?_
  simp only [go_sem, reduceCtorEq]
  repeat' (first
    | ((show W _ _ _ _); first | (refine W.seq fun K hK => ?_) | refine W.block ?_ | (refine W.reg rfl ?_; simp only [go_sem, reduceCtorEq]) | (refine W.regD Try_mo rfl rfl ?_; simp only [go_sem, reduceCtorEq]) | (refine W.skip ?_; simp only [go_sem]) | (refine W.exit ?_; simp only [go_sem]) | (refine W.ret (Post.ret ?_); simp only [go_sem, reduceCtorEq]) | refine W.condT rfl ?_ | refine W.condF rfl ?_ | refine W.cond rfl (fun h => ?_) (fun h => ?_))
    | ((show AX _ _ _ _ _); first | (refine AX.pcall rfl rfl (by simp only [go_sem, unim_im]; rfl) (by solve_by_elim) rfl rfl ?_; simp only [go_sem, reduceCtorEq]) | (refine AX.pcallF rfl rfl (by simp only [go_sem, unim_im]; rfl) (by simp only [go_sem, unim_im]; rfl) (by solve_by_elim) rfl rfl ?_; simp only [go_sem, reduceCtorEq]) | (refine AX.lookup rfl (by first | exact tM65 | exact tM66) (by first | exact tG2 | exact tG3 | exact tG4 | exact tG5 | exact tG7 | exact tG9 | exact tG12 | exact tG13 | exact tG18 | exact tG19 | exact tG20 | exact tG21 | exact tG22 | exact tG23 | exact tG25 | exact tG26 | exact tG27 | exact tG34 | exact tG36 | exact tG37 | exact tG38 | exact tG46 | exact tG49 | exact tG50 | exact tG51 | exact tG58 | exact tG59 | exact tG65 | exact tG66 | exact tG69 | exact tG70 | exact tG72 | exact tG74 | exact tG75 | exact tG79 | exact tG80 | exact tG87 | exact tG90 | exact tG95 | exact tG96 | exact tG100 | exact tG103 | exact tG111 | exact tG117 | exact tG121 | exact tG128 | exact tG134 | exact tG142 | exact tG145 | exact tG148) (by first | exact kd9) rfl rfl rfl (by assumption) rfl ?_; simp only [go_sem, reduceCtorEq]) | (refine AX.mapUpdate rfl rfl (by first | exact tM65 | exact tM66) (by first | exact kd9) rfl rfl rfl (by assumption) rfl (by simp only [go_sem, reduceCtorEq]) ?_; simp only [go_sem, reduceCtorEq]) | (refine AX.makeMap rfl (by first | exact tM65 | exact tM66) rfl ?_; simp only [go_sem, reduceCtorEq]) | (refine AX.lenMap rfl (by first | exact tM65 | exact tM66) rfl rfl rfl ?_; simp only [go_sem, reduceCtorEq]) | (refine AX.range rfl (by first | exact tM65 | exact tM66) rfl rfl rfl ?_; simp only [go_sem, reduceCtorEq]) | (refine AX.appendStr rfl (by first | exact tL22 | exact tL23 | exact tL25 | exact tL34 | exact tL36 | exact tL50 | exact tL100) (by simp only [go_sem]) (by simp only [go_sem]) (by simp only [go_sem]) rfl rfl rfl rfl (by simp only [go_sem, reduceCtorEq]; first | omega | (simp; omega)) ?_; simp only [go_sem, reduceCtorEq]) | (refine AX.shr rfl rfl rfl rfl (by first | decide | omega) ?_; simp only [go_sem, reduceCtorEq]) | (refine AX.shl rfl rfl rfl rfl (by first | decide | omega) ?_; simp only [go_sem, reduceCtorEq]) | (refine AX.bits rfl rfl rfl (by assumption) rfl ?_; simp only [go_sem, reduceCtorEq]) | (refine AX.nilSl rfl (by first | exact tL22 | exact tL23 | exact tL25 | exact tL34 | exact tL36 | exact tL50 | exact tL100) (by first | exact .inl rfl | exact .inr rfl) rfl rfl rfl ?_; simp only [go_sem, reduceCtorEq]))
    | ((show indepK _ _ _ _ = true ∧ _); refine And.intro (by kernel_rfl) ?_)
    | ((show _ ∧ _); refine And.intro (by first | omega | assumption | (simp only [go_sem]; omega) | (simp; omega) | (simp; done)) ?_)
    | (refine hK _ ?_; clear hK K)
    | (clear hK K; refine hK _ ?_; clear hK K)
    | (clear hK K; clear hK K; refine hK _ ?_; clear hK K)
    | (clear hK K; clear hK K; clear hK K; refine hK _ ?_; clear hK K)
    | fail)
end Go.Proofs.Ytegcmciglakicaa
namespace Go.Proofs.Ytegcmciglakicaa
open Go.RowKit Go.Exe
set_option linter.unusedVariables false
set_option linter.unusedSimpArgs false
set_option maxHeartbeats 1000000
set_option maxRecDepth 100000
attribute [local irreducible] W AX Run RunD AStep AOp AOpX AStB AStH AStG Fits PCall GCall PostG Post Stop

abbrev Nm := ByteArray × ByteArray
theorem clone_c (p : List Nm) : GCall Try.prog 53 0 (St.g [.c (.im (.sl 59 (p.map nmA)))] [] 0) (St.r (.c (.ref 0)) [(0, .row 59 (imR (p.map nmA)))] 1) := by
  refine GCall.introG (nt := 8) (rs := [.tmp 2]) Try.func53 rfl ⟨by kernel_rfl, by kernel_rfl, by kernel_rfl⟩ (by simp) ?_
  rintro ⟨P, w0, ok0, may, np, pblk⟩ rfl rfl
  simp only [go_sem]
  refine W.lenB 0 rfl tE59 fun hlen hbytes => ?_
  rw [List.length_map] at hlen hbytes
  refine W.nilCase 0 rfl (fun h0 => ?_) ?_
  · rw [h0]
    simp only [go_sem]
    repeat' (first
      | ((show W _ _ _ _); first | (refine W.seq fun K hK => ?_) | refine W.block ?_ | (refine W.reg rfl ?_; simp only [go_sem, reduceCtorEq]) | (refine W.regD Try_mo rfl rfl ?_; simp only [go_sem, reduceCtorEq]) | (refine W.skip ?_; simp only [go_sem]) | (refine W.exit ?_; simp only [go_sem]) | (refine W.ret (Post.ret ?_); simp only [go_sem, reduceCtorEq]) | refine W.condT rfl ?_ | refine W.condF rfl ?_ | refine W.cond rfl (fun h => ?_) (fun h => ?_))
      | ((show AX _ _ _ _ _); first | (refine AX.pcall rfl rfl (by simp only [go_sem, unim_im]; rfl) (by solve_by_elim) rfl rfl ?_; simp only [go_sem, reduceCtorEq]) | (refine AX.pcallF rfl rfl (by simp only [go_sem, unim_im]; rfl) (by simp only [go_sem, unim_im]; rfl) (by solve_by_elim) rfl rfl ?_; simp only [go_sem, reduceCtorEq]) | (refine AX.lookup rfl (by first | exact tM65 | exact tM66) (by first | exact tG2 | exact tG3 | exact tG4 | exact tG5 | exact tG7 | exact tG9 | exact tG12 | exact tG13 | exact tG18 | exact tG19 | exact tG20 | exact tG21 | exact tG22 | exact tG23 | exact tG25 | exact tG26 | exact tG27 | exact tG34 | exact tG36 | exact tG37 | exact tG38 | exact tG46 | exact tG49 | exact tG50 | exact tG51 | exact tG58 | exact tG59 | exact tG65 | exact tG66 | exact tG69 | exact tG70 | exact tG72 | exact tG74 | exact tG75 | exact tG79 | exact tG80 | exact tG87 | exact tG90 | exact tG95 | exact tG96 | exact tG100 | exact tG103 | exact tG111 | exact tG117 | exact tG121 | exact tG128 | exact tG134 | exact tG142 | exact tG145 | exact tG148) (by first | exact kd9) rfl rfl rfl (by assumption) rfl ?_; simp only [go_sem, reduceCtorEq]) | (refine AX.mapUpdate rfl rfl (by first | exact tM65 | exact tM66) (by first | exact kd9) rfl rfl rfl (by assumption) rfl (by simp only [go_sem, reduceCtorEq]) ?_; simp only [go_sem, reduceCtorEq]) | (refine AX.makeMap rfl (by first | exact tM65 | exact tM66) rfl ?_; simp only [go_sem, reduceCtorEq]) | (refine AX.lenMap rfl (by first | exact tM65 | exact tM66) rfl rfl rfl ?_; simp only [go_sem, reduceCtorEq]) | (refine AX.range rfl (by first | exact tM65 | exact tM66) rfl rfl rfl ?_; simp only [go_sem, reduceCtorEq]) | (refine AX.appendStr rfl (by first | exact tL22 | exact tL23 | exact tL25 | exact tL34 | exact tL36 | exact tL50 | exact tL100) (by simp only [go_sem]) (by simp only [go_sem]) (by simp only [go_sem]) rfl rfl rfl rfl (by simp only [go_sem, reduceCtorEq]; first | omega | (simp; omega)) ?_; simp only [go_sem, reduceCtorEq]) | (refine AX.shr rfl rfl rfl rfl (by first | decide | omega) ?_; simp only [go_sem, reduceCtorEq]) | (refine AX.shl rfl rfl rfl rfl (by first | decide | omega) ?_; simp only [go_sem, reduceCtorEq]) | (refine AX.bits rfl rfl rfl (by assumption) rfl ?_; simp only [go_sem, reduceCtorEq]) | (refine AX.nilSl rfl (by first | exact tL22 | exact tL23 | exact tL25 | exact tL34 | exact tL36 | exact tL50 | exact tL100) (by first | exact .inl rfl | exact .inr rfl) rfl rfl rfl ?_; simp only [go_sem, reduceCtorEq]))
      | ((show indepK _ _ _ _ = true ∧ _); refine And.intro (by kernel_rfl) ?_)
      | ((show _ ∧ _); refine And.intro (by first | omega | assumption | (simp only [go_sem]; omega) | (simp; omega) | (simp; done)) ?_)
      | (refine hK _ ?_; clear hK K)
      | (clear hK K; refine hK _ ?_; clear hK K)
      | (clear hK K; clear hK K; refine hK _ ?_; clear hK K)
      | (clear hK K; clear hK K; clear hK K; refine hK _ ?_; clear hK K)
      | fail)
    refine W.ret (PostG.ret (Fits.fit [] [2] 0 rfl rfl (Fits.adopt 2 0 59 rfl rfl rfl tE59 rfl Fits.rfl)) rfl rfl ?_)
    simp only [St.r, go_sem, imR_nil]
  · simp only [go_sem]
    repeat' (first
      | ((show W _ _ _ _); first | (refine W.seq fun K hK => ?_) | refine W.block ?_ | (refine W.reg rfl ?_; simp only [go_sem, reduceCtorEq]) | (refine W.regD Try_mo rfl rfl ?_; simp only [go_sem, reduceCtorEq]) | (refine W.skip ?_; simp only [go_sem]) | (refine W.exit ?_; simp only [go_sem]) | (refine W.ret (Post.ret ?_); simp only [go_sem, reduceCtorEq]) | refine W.condT rfl ?_ | refine W.condF rfl ?_ | refine W.cond rfl (fun h => ?_) (fun h => ?_))
      | ((show AX _ _ _ _ _); first | (refine AX.pcall rfl rfl (by simp only [go_sem, unim_im]; rfl) (by solve_by_elim) rfl rfl ?_; simp only [go_sem, reduceCtorEq]) | (refine AX.pcallF rfl rfl (by simp only [go_sem, unim_im]; rfl) (by simp only [go_sem, unim_im]; rfl) (by solve_by_elim) rfl rfl ?_; simp only [go_sem, reduceCtorEq]) | (refine AX.lookup rfl (by first | exact tM65 | exact tM66) (by first | exact tG2 | exact tG3 | exact tG4 | exact tG5 | exact tG7 | exact tG9 | exact tG12 | exact tG13 | exact tG18 | exact tG19 | exact tG20 | exact tG21 | exact tG22 | exact tG23 | exact tG25 | exact tG26 | exact tG27 | exact tG34 | exact tG36 | exact tG37 | exact tG38 | exact tG46 | exact tG49 | exact tG50 | exact tG51 | exact tG58 | exact tG59 | exact tG65 | exact tG66 | exact tG69 | exact tG70 | exact tG72 | exact tG74 | exact tG75 | exact tG79 | exact tG80 | exact tG87 | exact tG90 | exact tG95 | exact tG96 | exact tG100 | exact tG103 | exact tG111 | exact tG117 | exact tG121 | exact tG128 | exact tG134 | exact tG142 | exact tG145 | exact tG148) (by first | exact kd9) rfl rfl rfl (by assumption) rfl ?_; simp only [go_sem, reduceCtorEq]) | (refine AX.mapUpdate rfl rfl (by first | exact tM65 | exact tM66) (by first | exact kd9) rfl rfl rfl (by assumption) rfl (by simp only [go_sem, reduceCtorEq]) ?_; simp only [go_sem, reduceCtorEq]) | (refine AX.makeMap rfl (by first | exact tM65 | exact tM66) rfl ?_; simp only [go_sem, reduceCtorEq]) | (refine AX.lenMap rfl (by first | exact tM65 | exact tM66) rfl rfl rfl ?_; simp only [go_sem, reduceCtorEq]) | (refine AX.range rfl (by first | exact tM65 | exact tM66) rfl rfl rfl ?_; simp only [go_sem, reduceCtorEq]) | (refine AX.appendStr rfl (by first | exact tL22 | exact tL23 | exact tL25 | exact tL34 | exact tL36 | exact tL50 | exact tL100) (by simp only [go_sem]) (by simp only [go_sem]) (by simp only [go_sem]) rfl rfl rfl rfl (by simp only [go_sem, reduceCtorEq]; first | omega | (simp; omega)) ?_; simp only [go_sem, reduceCtorEq]) | (refine AX.shr rfl rfl rfl rfl (by first | decide | omega) ?_; simp only [go_sem, reduceCtorEq]) | (refine AX.shl rfl rfl rfl rfl (by first | decide | omega) ?_; simp only [go_sem, reduceCtorEq]) | (refine AX.bits rfl rfl rfl (by assumption) rfl ?_; simp only [go_sem, reduceCtorEq]) | (refine AX.nilSl rfl (by first | exact tL22 | exact tL23 | exact tL25 | exact tL34 | exact tL36 | exact tL50 | exact tL100) (by first | exact .inl rfl | exact .inr rfl) rfl rfl rfl ?_; simp only [go_sem, reduceCtorEq]))
      | ((show indepK _ _ _ _ = true ∧ _); refine And.intro (by kernel_rfl) ?_)
      | ((show _ ∧ _); refine And.intro (by first | omega | assumption | (simp only [go_sem]; omega) | (simp; omega) | (simp; done)) ?_)
      | (refine hK _ ?_; clear hK K)
      | (clear hK K; refine hK _ ?_; clear hK K)
      | (clear hK K; clear hK K; refine hK _ ?_; clear hK K)
      | (clear hK K; clear hK K; clear hK K; refine hK _ ?_; clear hK K)
      | fail)
    refine W.ret (PostG.ret (Fits.fit [(5, 0)] [2] 1 rfl rfl Fits.rfl) rfl rfl ?_)
    simp only [St.r, go_sem]
def cmpN (a b : Nm) : Int := orL [cmpB a.1 b.1, cmpB a.2 b.2]
theorem compareNames_c (cOr : ∀ l : List Int, PCall Try.prog 48 [.c (.im (.sl 3 (l.map iA)))] (ft (.int .i64 (orL l)))) (a b : Nm) : PCall Try.prog 58 [.g ((nmA a).map .im), .g ((nmA b).map .im)] (ft (.int .i64 (cmpN a b))) := by
  have c1 := cmpCompare_c
  have c2 := cOr [cmpB a.1 b.1, cmpB a.2 b.2]
  simp only [List.map, iA] at c2
  simp only [nmA, List.map]
  refine PCall.intro (nt := 17) (rs := [.tmp 4]) Try.func58 rfl ⟨by kernel_rfl, by kernel_rfl, by kernel_rfl⟩ (by simp) ?_
  rintro ⟨P, w0, ok0, may, np, pblk⟩ rfl rfl
  repeat' (first
    | ((show W _ _ _ _); first | (refine W.seq fun K hK => ?_) | refine W.block ?_ | (refine W.reg rfl ?_; simp only [go_sem, reduceCtorEq]) | (refine W.regD Try_mo rfl rfl ?_; simp only [go_sem, reduceCtorEq]) | (refine W.skip ?_; simp only [go_sem]) | (refine W.exit ?_; simp only [go_sem]) | (refine W.ret (Post.ret ?_); simp only [go_sem, reduceCtorEq]) | refine W.condT rfl ?_ | refine W.condF rfl ?_ | refine W.cond rfl (fun h => ?_) (fun h => ?_))
    | ((show AX _ _ _ _ _); first | (refine AX.pcall rfl rfl (by simp only [go_sem, unim_im]; rfl) (by solve_by_elim) rfl rfl ?_; simp only [go_sem, reduceCtorEq]) | (refine AX.pcallF rfl rfl (by simp only [go_sem, unim_im]; rfl) (by simp only [go_sem, unim_im]; rfl) (by solve_by_elim) rfl rfl ?_; simp only [go_sem, reduceCtorEq]) | (refine AX.lookup rfl (by first | exact tM65 | exact tM66) (by first | exact tG2 | exact tG3 | exact tG4 | exact tG5 | exact tG7 | exact tG9 | exact tG12 | exact tG13 | exact tG18 | exact tG19 | exact tG20 | exact tG21 | exact tG22 | exact tG23 | exact tG25 | exact tG26 | exact tG27 | exact tG34 | exact tG36 | exact tG37 | exact tG38 | exact tG46 | exact tG49 | exact tG50 | exact tG51 | exact tG58 | exact tG59 | exact tG65 | exact tG66 | exact tG69 | exact tG70 | exact tG72 | exact tG74 | exact tG75 | exact tG79 | exact tG80 | exact tG87 | exact tG90 | exact tG95 | exact tG96 | exact tG100 | exact tG103 | exact tG111 | exact tG117 | exact tG121 | exact tG128 | exact tG134 | exact tG142 | exact tG145 | exact tG148) (by first | exact kd9) rfl rfl rfl (by assumption) rfl ?_; simp only [go_sem, reduceCtorEq]) | (refine AX.mapUpdate rfl rfl (by first | exact tM65 | exact tM66) (by first | exact kd9) rfl rfl rfl (by assumption) rfl (by simp only [go_sem, reduceCtorEq]) ?_; simp only [go_sem, reduceCtorEq]) | (refine AX.makeMap rfl (by first | exact tM65 | exact tM66) rfl ?_; simp only [go_sem, reduceCtorEq]) | (refine AX.lenMap rfl (by first | exact tM65 | exact tM66) rfl rfl rfl ?_; simp only [go_sem, reduceCtorEq]) | (refine AX.range rfl (by first | exact tM65 | exact tM66) rfl rfl rfl ?_; simp only [go_sem, reduceCtorEq]) | (refine AX.appendStr rfl (by first | exact tL22 | exact tL23 | exact tL25 | exact tL34 | exact tL36 | exact tL50 | exact tL100) (by simp only [go_sem]) (by simp only [go_sem]) (by simp only [go_sem]) rfl rfl rfl rfl (by simp only [go_sem, reduceCtorEq]; first | omega | (simp; omega)) ?_; simp only [go_sem, reduceCtorEq]) | (refine AX.shr rfl rfl rfl rfl (by first | decide | omega) ?_; simp only [go_sem, reduceCtorEq]) | (refine AX.shl rfl rfl rfl rfl (by first | decide | omega) ?_; simp only [go_sem, reduceCtorEq]) | (refine AX.bits rfl rfl rfl (by assumption) rfl ?_; simp only [go_sem, reduceCtorEq]) | (refine AX.nilSl rfl (by first | exact tL22 | exact tL23 | exact tL25 | exact tL34 | exact tL36 | exact tL50 | exact tL100) (by first | exact .inl rfl | exact .inr rfl) rfl rfl rfl ?_; simp only [go_sem, reduceCtorEq]))
    | ((show indepK _ _ _ _ = true ∧ _); refine And.intro (by kernel_rfl) ?_)
    | ((show _ ∧ _); refine And.intro (by first | omega | assumption | (simp only [go_sem]; omega) | (simp; omega) | (simp; done)) ?_)
    | (refine hK _ ?_; clear hK K)
    | (clear hK K; refine hK _ ?_; clear hK K)
    | (clear hK K; clear hK K; refine hK _ ?_; clear hK K)
    | (clear hK K; clear hK K; clear hK K; refine hK _ ?_; clear hK K)
    | fail)
  all_goals simp_all [cmpN]
def cmpsG {α : Type} (cm : α → α → Int) : List α → List α → Int
  | [], [] => 0
  | [], _ :: _ => -1
  | _ :: _, [] => 1
  | x :: r, y :: q => if cm x y ≠ 0 then cm x y else cmpsG cm r q
theorem compareFuncN_c (f : Nat) (cm : Nm → Nm → Int) (xs ys : List Nm) (hf : ∀ x ∈ xs, ∀ y ∈ ys, PCall Try.prog f [.g ((nmA x).map .im), .g ((nmA y).map .im)] (ft (.int .i64 (cm x y)))) :
    PCall Try.prog 57 [.c (.im (.sl 59 (xs.map nmA))), .c (.im (.sl 59 (ys.map nmA))), ft (.func (.func f) #[] #[])] (ft (.int .i64 (cmpsG cm xs ys))) := by
  refine PCall.intro (nt := 39) (rs := [.tmp 6]) Try.func57 rfl ⟨by kernel_rfl, by kernel_rfl, by kernel_rfl⟩ (by simp) ?_
  rintro ⟨P, w0, ok0, may, np, pblk⟩ rfl rfl
  refine W.lenIm 0 rfl fun hlen => ?_
  rw [List.length_map, maxLen_is] at hlen
  repeat' (first
    | ((show W _ _ _ _); first | (refine W.seq fun K hK => ?_) | refine W.block ?_ | (refine W.reg rfl ?_; simp only [go_sem, reduceCtorEq]) | (refine W.regD Try_mo rfl rfl ?_; simp only [go_sem, reduceCtorEq]) | (refine W.skip ?_; simp only [go_sem]) | (refine W.exit ?_; simp only [go_sem]) | (refine W.ret (Post.ret ?_); simp only [go_sem, reduceCtorEq]) | refine W.condT rfl ?_ | refine W.condF rfl ?_ | refine W.cond rfl (fun h => ?_) (fun h => ?_))
    | ((show AX _ _ _ _ _); first | (refine AX.pcall rfl rfl (by simp only [go_sem, unim_im]; rfl) (by solve_by_elim) rfl rfl ?_; simp only [go_sem, reduceCtorEq]) | (refine AX.pcallF rfl rfl (by simp only [go_sem, unim_im]; rfl) (by simp only [go_sem, unim_im]; rfl) (by solve_by_elim) rfl rfl ?_; simp only [go_sem, reduceCtorEq]) | (refine AX.lookup rfl (by first | exact tM65 | exact tM66) (by first | exact tG2 | exact tG3 | exact tG4 | exact tG5 | exact tG7 | exact tG9 | exact tG12 | exact tG13 | exact tG18 | exact tG19 | exact tG20 | exact tG21 | exact tG22 | exact tG23 | exact tG25 | exact tG26 | exact tG27 | exact tG34 | exact tG36 | exact tG37 | exact tG38 | exact tG46 | exact tG49 | exact tG50 | exact tG51 | exact tG58 | exact tG59 | exact tG65 | exact tG66 | exact tG69 | exact tG70 | exact tG72 | exact tG74 | exact tG75 | exact tG79 | exact tG80 | exact tG87 | exact tG90 | exact tG95 | exact tG96 | exact tG100 | exact tG103 | exact tG111 | exact tG117 | exact tG121 | exact tG128 | exact tG134 | exact tG142 | exact tG145 | exact tG148) (by first | exact kd9) rfl rfl rfl (by assumption) rfl ?_; simp only [go_sem, reduceCtorEq]) | (refine AX.mapUpdate rfl rfl (by first | exact tM65 | exact tM66) (by first | exact kd9) rfl rfl rfl (by assumption) rfl (by simp only [go_sem, reduceCtorEq]) ?_; simp only [go_sem, reduceCtorEq]) | (refine AX.makeMap rfl (by first | exact tM65 | exact tM66) rfl ?_; simp only [go_sem, reduceCtorEq]) | (refine AX.lenMap rfl (by first | exact tM65 | exact tM66) rfl rfl rfl ?_; simp only [go_sem, reduceCtorEq]) | (refine AX.range rfl (by first | exact tM65 | exact tM66) rfl rfl rfl ?_; simp only [go_sem, reduceCtorEq]) | (refine AX.appendStr rfl (by first | exact tL22 | exact tL23 | exact tL25 | exact tL34 | exact tL36 | exact tL50 | exact tL100) (by simp only [go_sem]) (by simp only [go_sem]) (by simp only [go_sem]) rfl rfl rfl rfl (by simp only [go_sem, reduceCtorEq]; first | omega | (simp; omega)) ?_; simp only [go_sem, reduceCtorEq]) | (refine AX.shr rfl rfl rfl rfl (by first | decide | omega) ?_; simp only [go_sem, reduceCtorEq]) | (refine AX.shl rfl rfl rfl rfl (by first | decide | omega) ?_; simp only [go_sem, reduceCtorEq]) | (refine AX.bits rfl rfl rfl (by assumption) rfl ?_; simp only [go_sem, reduceCtorEq]) | (refine AX.nilSl rfl (by first | exact tL22 | exact tL23 | exact tL25 | exact tL34 | exact tL36 | exact tL50 | exact tL100) (by first | exact .inl rfl | exact .inr rfl) rfl rfl rfl ?_; simp only [go_sem, reduceCtorEq]))
    | ((show indepK _ _ _ _ = true ∧ _); refine And.intro (by kernel_rfl) ?_)
    | ((show _ ∧ _); refine And.intro (by first | omega | assumption | (simp only [go_sem]; omega) | (simp; omega) | (simp; done)) ?_)
    | (refine hK _ ?_; clear hK K)
    | (clear hK K; refine hK _ ?_; clear hK K)
    | (clear hK K; clear hK K; refine hK _ ?_; clear hK K)
    | (clear hK K; clear hK K; clear hK K; refine hK _ ?_; clear hK K)
    | fail)
  refine W.loopF (T := fun i : Nat => { t := [(0, .c (.im (.sl 59 (xs.map nmA)))), (1, .c (.im (.sl 59 (ys.map nmA)))), (2, ft (.func (.func f) #[] #[])), (6, ft (.int .i64 0)), (11, .c (.im (.sl 59 (xs.map nmA)))), (12, ft (.int .i64 xs.length)), (13, ft (.int .i64 (i : Nat)))], h := [], nx := 0, ex := [], nt := 39 })
    (Inv := fun i => i ≤ xs.length ∧ i ≤ ys.length ∧ cmpsG cm xs ys = cmpsG cm (xs.drop i) (ys.drop i)) (μ := fun i => xs.length - i) (x0 := 0) (Fits.fit [] [0, 1, 2, 6, 11, 12, 13] 0 rfl rfl ?_) ⟨Nat.zero_le _, Nat.zero_le _, rfl⟩ ?_
  · simp only [go_sem]
    exact Fits.rfl
  rintro i ⟨hi, hi2, hinv⟩ KL hKL
  by_cases hlt : i < xs.length
  · obtain ⟨⟨s, o⟩, hx, hm, hd⟩ := drop_at hlt
    have e1 : decide ((i : Int) < xs.length) = true := by simp; omega
    have hw := w64s i (by omega)
    by_cases hlt2 : i < ys.length
    · obtain ⟨⟨s', o'⟩, hx', hm', hd'⟩ := drop_at hlt2
      have hc := hf _ hm _ hm'
      simp only [nmA, List.map] at hc
      have e2 : decide ((i : Int) ≥ ys.length) = false := by simp; omega
      repeat' (first
        | ((show W _ _ _ _); first | (refine W.seq fun K hK => ?_) | refine W.block ?_ | (refine W.reg rfl ?_; simp only [go_sem, reduceCtorEq, List.getElem?_map, hx, hx', nmA, e1, e2, hw]) | (refine W.regD Try_mo rfl rfl ?_; simp only [go_sem, reduceCtorEq, List.getElem?_map, hx, hx', nmA, e1, e2, hw]) | (refine W.skip ?_; simp only [go_sem]) | (refine W.exit ?_; simp only [go_sem]) | (refine W.ret (Post.ret ?_); simp only [go_sem, reduceCtorEq, List.getElem?_map, hx, hx', nmA, e1, e2, hw]) | refine W.condT rfl ?_ | refine W.condF rfl ?_ | refine W.cond rfl (fun h => ?_) (fun h => ?_))
        | ((show AX _ _ _ _ _); first | (refine AX.pcall rfl rfl (by simp only [go_sem, unim_im]; rfl) (by solve_by_elim) rfl rfl ?_; simp only [go_sem, reduceCtorEq, List.getElem?_map, hx, hx', nmA, e1, e2, hw]) | (refine AX.pcallF rfl rfl (by simp only [go_sem, unim_im]; rfl) (by simp only [go_sem, unim_im]; rfl) (by solve_by_elim) rfl rfl ?_; simp only [go_sem, reduceCtorEq, List.getElem?_map, hx, hx', nmA, e1, e2, hw]) | (refine AX.lookup rfl (by first | exact tM65 | exact tM66) (by first | exact tG2 | exact tG3 | exact tG4 | exact tG5 | exact tG7 | exact tG9 | exact tG12 | exact tG13 | exact tG18 | exact tG19 | exact tG20 | exact tG21 | exact tG22 | exact tG23 | exact tG25 | exact tG26 | exact tG27 | exact tG34 | exact tG36 | exact tG37 | exact tG38 | exact tG46 | exact tG49 | exact tG50 | exact tG51 | exact tG58 | exact tG59 | exact tG65 | exact tG66 | exact tG69 | exact tG70 | exact tG72 | exact tG74 | exact tG75 | exact tG79 | exact tG80 | exact tG87 | exact tG90 | exact tG95 | exact tG96 | exact tG100 | exact tG103 | exact tG111 | exact tG117 | exact tG121 | exact tG128 | exact tG134 | exact tG142 | exact tG145 | exact tG148) (by first | exact kd9) rfl rfl rfl (by assumption) rfl ?_; simp only [go_sem, reduceCtorEq, List.getElem?_map, hx, hx', nmA, e1, e2, hw]) | (refine AX.mapUpdate rfl rfl (by first | exact tM65 | exact tM66) (by first | exact kd9) rfl rfl rfl (by assumption) rfl (by simp only [go_sem, reduceCtorEq, List.getElem?_map, hx, hx', nmA, e1, e2, hw]) ?_; simp only [go_sem, reduceCtorEq, List.getElem?_map, hx, hx', nmA, e1, e2, hw]) | (refine AX.makeMap rfl (by first | exact tM65 | exact tM66) rfl ?_; simp only [go_sem, reduceCtorEq, List.getElem?_map, hx, hx', nmA, e1, e2, hw]) | (refine AX.lenMap rfl (by first | exact tM65 | exact tM66) rfl rfl rfl ?_; simp only [go_sem, reduceCtorEq, List.getElem?_map, hx, hx', nmA, e1, e2, hw]) | (refine AX.range rfl (by first | exact tM65 | exact tM66) rfl rfl rfl ?_; simp only [go_sem, reduceCtorEq, List.getElem?_map, hx, hx', nmA, e1, e2, hw]) | (refine AX.appendStr rfl (by first | exact tL22 | exact tL23 | exact tL25 | exact tL34 | exact tL36 | exact tL50 | exact tL100) (by simp only [go_sem]) (by simp only [go_sem]) (by simp only [go_sem]) rfl rfl rfl rfl (by simp only [go_sem, reduceCtorEq, List.getElem?_map, hx, hx', nmA, e1, e2, hw]; first | omega | (simp; omega)) ?_; simp only [go_sem, reduceCtorEq, List.getElem?_map, hx, hx', nmA, e1, e2, hw]) | (refine AX.shr rfl rfl rfl rfl (by first | decide | omega) ?_; simp only [go_sem, reduceCtorEq, List.getElem?_map, hx, hx', nmA, e1, e2, hw]) | (refine AX.shl rfl rfl rfl rfl (by first | decide | omega) ?_; simp only [go_sem, reduceCtorEq, List.getElem?_map, hx, hx', nmA, e1, e2, hw]) | (refine AX.bits rfl rfl rfl (by assumption) rfl ?_; simp only [go_sem, reduceCtorEq, List.getElem?_map, hx, hx', nmA, e1, e2, hw]) | (refine AX.nilSl rfl (by first | exact tL22 | exact tL23 | exact tL25 | exact tL34 | exact tL36 | exact tL50 | exact tL100) (by first | exact .inl rfl | exact .inr rfl) rfl rfl rfl ?_; simp only [go_sem, reduceCtorEq, List.getElem?_map, hx, hx', nmA, e1, e2, hw]))
        | ((show indepK _ _ _ _ = true ∧ _); refine And.intro (by kernel_rfl) ?_)
        | ((show _ ∧ _); refine And.intro (by first | omega | assumption | (simp only [go_sem]; omega) | (simp; omega) | (simp; done)) ?_)
        | (refine hK _ ?_; clear hK K)
        | (clear hK K; refine hK _ ?_; clear hK K)
        | (clear hK K; clear hK K; refine hK _ ?_; clear hK K)
        | (clear hK K; clear hK K; clear hK K; refine hK _ ?_; clear hK K)
        | fail)
      · simp at h
        simp [hinv, hd, hd', cmpsG, h]
      · refine hKL.to (i + 1) ⟨by omega, by omega, ?_⟩ (by omega) (Fits.fit [] [0, 1, 2, 6, 11, 12, 13] 0 rfl rfl ?_)
        · simp at h
          simp [hinv, hd, hd', cmpsG, h]
        · simp only [go_sem]
          exact Fits.rfl
    · have e2 : decide ((i : Int) ≥ ys.length) = true := by simp; omega
      repeat' (first
        | ((show W _ _ _ _); first | (refine W.seq fun K hK => ?_) | refine W.block ?_ | (refine W.reg rfl ?_; simp only [go_sem, reduceCtorEq, List.getElem?_map, hx, nmA, e1, e2, hw]) | (refine W.regD Try_mo rfl rfl ?_; simp only [go_sem, reduceCtorEq, List.getElem?_map, hx, nmA, e1, e2, hw]) | (refine W.skip ?_; simp only [go_sem]) | (refine W.exit ?_; simp only [go_sem]) | (refine W.ret (Post.ret ?_); simp only [go_sem, reduceCtorEq, List.getElem?_map, hx, nmA, e1, e2, hw]) | refine W.condT rfl ?_ | refine W.condF rfl ?_ | refine W.cond rfl (fun h => ?_) (fun h => ?_))
        | ((show AX _ _ _ _ _); first | (refine AX.pcall rfl rfl (by simp only [go_sem, unim_im]; rfl) (by solve_by_elim) rfl rfl ?_; simp only [go_sem, reduceCtorEq, List.getElem?_map, hx, nmA, e1, e2, hw]) | (refine AX.pcallF rfl rfl (by simp only [go_sem, unim_im]; rfl) (by simp only [go_sem, unim_im]; rfl) (by solve_by_elim) rfl rfl ?_; simp only [go_sem, reduceCtorEq, List.getElem?_map, hx, nmA, e1, e2, hw]) | (refine AX.lookup rfl (by first | exact tM65 | exact tM66) (by first | exact tG2 | exact tG3 | exact tG4 | exact tG5 | exact tG7 | exact tG9 | exact tG12 | exact tG13 | exact tG18 | exact tG19 | exact tG20 | exact tG21 | exact tG22 | exact tG23 | exact tG25 | exact tG26 | exact tG27 | exact tG34 | exact tG36 | exact tG37 | exact tG38 | exact tG46 | exact tG49 | exact tG50 | exact tG51 | exact tG58 | exact tG59 | exact tG65 | exact tG66 | exact tG69 | exact tG70 | exact tG72 | exact tG74 | exact tG75 | exact tG79 | exact tG80 | exact tG87 | exact tG90 | exact tG95 | exact tG96 | exact tG100 | exact tG103 | exact tG111 | exact tG117 | exact tG121 | exact tG128 | exact tG134 | exact tG142 | exact tG145 | exact tG148) (by first | exact kd9) rfl rfl rfl (by assumption) rfl ?_; simp only [go_sem, reduceCtorEq, List.getElem?_map, hx, nmA, e1, e2, hw]) | (refine AX.mapUpdate rfl rfl (by first | exact tM65 | exact tM66) (by first | exact kd9) rfl rfl rfl (by assumption) rfl (by simp only [go_sem, reduceCtorEq, List.getElem?_map, hx, nmA, e1, e2, hw]) ?_; simp only [go_sem, reduceCtorEq, List.getElem?_map, hx, nmA, e1, e2, hw]) | (refine AX.makeMap rfl (by first | exact tM65 | exact tM66) rfl ?_; simp only [go_sem, reduceCtorEq, List.getElem?_map, hx, nmA, e1, e2, hw]) | (refine AX.lenMap rfl (by first | exact tM65 | exact tM66) rfl rfl rfl ?_; simp only [go_sem, reduceCtorEq, List.getElem?_map, hx, nmA, e1, e2, hw]) | (refine AX.range rfl (by first | exact tM65 | exact tM66) rfl rfl rfl ?_; simp only [go_sem, reduceCtorEq, List.getElem?_map, hx, nmA, e1, e2, hw]) | (refine AX.appendStr rfl (by first | exact tL22 | exact tL23 | exact tL25 | exact tL34 | exact tL36 | exact tL50 | exact tL100) (by simp only [go_sem]) (by simp only [go_sem]) (by simp only [go_sem]) rfl rfl rfl rfl (by simp only [go_sem, reduceCtorEq, List.getElem?_map, hx, nmA, e1, e2, hw]; first | omega | (simp; omega)) ?_; simp only [go_sem, reduceCtorEq, List.getElem?_map, hx, nmA, e1, e2, hw]) | (refine AX.shr rfl rfl rfl rfl (by first | decide | omega) ?_; simp only [go_sem, reduceCtorEq, List.getElem?_map, hx, nmA, e1, e2, hw]) | (refine AX.shl rfl rfl rfl rfl (by first | decide | omega) ?_; simp only [go_sem, reduceCtorEq, List.getElem?_map, hx, nmA, e1, e2, hw]) | (refine AX.bits rfl rfl rfl (by assumption) rfl ?_; simp only [go_sem, reduceCtorEq, List.getElem?_map, hx, nmA, e1, e2, hw]) | (refine AX.nilSl rfl (by first | exact tL22 | exact tL23 | exact tL25 | exact tL34 | exact tL36 | exact tL50 | exact tL100) (by first | exact .inl rfl | exact .inr rfl) rfl rfl rfl ?_; simp only [go_sem, reduceCtorEq, List.getElem?_map, hx, nmA, e1, e2, hw]))
        | ((show indepK _ _ _ _ = true ∧ _); refine And.intro (by kernel_rfl) ?_)
        | ((show _ ∧ _); refine And.intro (by first | omega | assumption | (simp only [go_sem]; omega) | (simp; omega) | (simp; done)) ?_)
        | (refine hK _ ?_; clear hK K)
        | (clear hK K; refine hK _ ?_; clear hK K)
        | (clear hK K; clear hK K; refine hK _ ?_; clear hK K)
        | (clear hK K; clear hK K; clear hK K; refine hK _ ?_; clear hK K)
        | fail)
      have : ys.drop i = [] := List.drop_eq_nil_of_le (by omega)
      simp [hinv, hd, this, cmpsG]
  · have e1 : decide ((i : Int) < xs.length) = false := by simp; omega
    have hd : xs.drop i = [] := List.drop_eq_nil_of_le (by omega)
    clear hKL
    repeat' (first
      | ((show W _ _ _ _); first | (refine W.seq fun K hK => ?_) | refine W.block ?_ | (refine W.reg rfl ?_; simp only [go_sem, reduceCtorEq, e1]) | (refine W.regD Try_mo rfl rfl ?_; simp only [go_sem, reduceCtorEq, e1]) | (refine W.skip ?_; simp only [go_sem]) | (refine W.exit ?_; simp only [go_sem]) | (refine W.ret (Post.ret ?_); simp only [go_sem, reduceCtorEq, e1]) | refine W.condT rfl ?_ | refine W.condF rfl ?_ | refine W.cond rfl (fun h => ?_) (fun h => ?_))
      | ((show AX _ _ _ _ _); first | (refine AX.pcall rfl rfl (by simp only [go_sem, unim_im]; rfl) (by solve_by_elim) rfl rfl ?_; simp only [go_sem, reduceCtorEq, e1]) | (refine AX.pcallF rfl rfl (by simp only [go_sem, unim_im]; rfl) (by simp only [go_sem, unim_im]; rfl) (by solve_by_elim) rfl rfl ?_; simp only [go_sem, reduceCtorEq, e1]) | (refine AX.lookup rfl (by first | exact tM65 | exact tM66) (by first | exact tG2 | exact tG3 | exact tG4 | exact tG5 | exact tG7 | exact tG9 | exact tG12 | exact tG13 | exact tG18 | exact tG19 | exact tG20 | exact tG21 | exact tG22 | exact tG23 | exact tG25 | exact tG26 | exact tG27 | exact tG34 | exact tG36 | exact tG37 | exact tG38 | exact tG46 | exact tG49 | exact tG50 | exact tG51 | exact tG58 | exact tG59 | exact tG65 | exact tG66 | exact tG69 | exact tG70 | exact tG72 | exact tG74 | exact tG75 | exact tG79 | exact tG80 | exact tG87 | exact tG90 | exact tG95 | exact tG96 | exact tG100 | exact tG103 | exact tG111 | exact tG117 | exact tG121 | exact tG128 | exact tG134 | exact tG142 | exact tG145 | exact tG148) (by first | exact kd9) rfl rfl rfl (by assumption) rfl ?_; simp only [go_sem, reduceCtorEq, e1]) | (refine AX.mapUpdate rfl rfl (by first | exact tM65 | exact tM66) (by first | exact kd9) rfl rfl rfl (by assumption) rfl (by simp only [go_sem, reduceCtorEq, e1]) ?_; simp only [go_sem, reduceCtorEq, e1]) | (refine AX.makeMap rfl (by first | exact tM65 | exact tM66) rfl ?_; simp only [go_sem, reduceCtorEq, e1]) | (refine AX.lenMap rfl (by first | exact tM65 | exact tM66) rfl rfl rfl ?_; simp only [go_sem, reduceCtorEq, e1]) | (refine AX.range rfl (by first | exact tM65 | exact tM66) rfl rfl rfl ?_; simp only [go_sem, reduceCtorEq, e1]) | (refine AX.appendStr rfl (by first | exact tL22 | exact tL23 | exact tL25 | exact tL34 | exact tL36 | exact tL50 | exact tL100) (by simp only [go_sem]) (by simp only [go_sem]) (by simp only [go_sem]) rfl rfl rfl rfl (by simp only [go_sem, reduceCtorEq, e1]; first | omega | (simp; omega)) ?_; simp only [go_sem, reduceCtorEq, e1]) | (refine AX.shr rfl rfl rfl rfl (by first | decide | omega) ?_; simp only [go_sem, reduceCtorEq, e1]) | (refine AX.shl rfl rfl rfl rfl (by first | decide | omega) ?_; simp only [go_sem, reduceCtorEq, e1]) | (refine AX.bits rfl rfl rfl (by assumption) rfl ?_; simp only [go_sem, reduceCtorEq, e1]) | (refine AX.nilSl rfl (by first | exact tL22 | exact tL23 | exact tL25 | exact tL34 | exact tL36 | exact tL50 | exact tL100) (by first | exact .inl rfl | exact .inr rfl) rfl rfl rfl ?_; simp only [go_sem, reduceCtorEq, e1]))
      | ((show indepK _ _ _ _ = true ∧ _); refine And.intro (by kernel_rfl) ?_)
      | ((show _ ∧ _); refine And.intro (by first | omega | assumption | (simp only [go_sem]; omega) | (simp; omega) | (simp; done)) ?_)
      | (refine hK _ ?_; clear hK K)
      | (clear hK K; refine hK _ ?_; clear hK K)
      | (clear hK K; clear hK K; refine hK _ ?_; clear hK K)
      | (clear hK K; clear hK K; clear hK K; refine hK _ ?_; clear hK K)
      | fail)
    · obtain ⟨x, r, hd'⟩ : ∃ x r, ys.drop i = x :: r := by
        simp at h
        obtain ⟨x, _, _, h4⟩ := drop_at (show i < ys.length by omega)
        exact ⟨x, _, h4⟩
      simp [hinv, hd, hd', cmpsG]
    · have : ys.drop i = [] := by simp at h; exact List.drop_eq_nil_of_le (by omega)
      simp [hinv, hd, this, cmpsG]
def cmpPath (a b : List Nm) : Int := cmpsG cmpN a b
def dlA (d : List Nm × Int) : List AV := [.sl 59 (d.1.map nmA), .flat (.int .i64 d.2)]
theorem listCmp_c (cOr : ∀ l : List Int, PCall Try.prog 48 [.c (.im (.sl 3 (l.map iA)))] (ft (.int .i64 (orL l)))) (a b : List Nm × Int) : PCall Try.prog 56 [.g ((dlA a).map .im), .g ((dlA b).map .im)] (ft (.int .i64 (cmpPath a.1 b.1))) := by
  have hc := compareFuncN_c 58 cmpN a.1 b.1 fun x _ y _ => compareNames_c cOr x y
  simp only [dlA, List.map, cmpPath]
  refine PCall.intro (nt := 10) (rs := [.tmp 4]) Try.func56 rfl ⟨by kernel_rfl, by kernel_rfl, by kernel_rfl⟩ (by simp) ?_
  rintro ⟨P, w0, ok0, may, np, pblk⟩ rfl rfl
  repeat' (first
    | ((show W _ _ _ _); first | (refine W.seq fun K hK => ?_) | refine W.block ?_ | (refine W.reg rfl ?_; simp only [go_sem, reduceCtorEq]) | (refine W.regD Try_mo rfl rfl ?_; simp only [go_sem, reduceCtorEq]) | (refine W.skip ?_; simp only [go_sem]) | (refine W.exit ?_; simp only [go_sem]) | (refine W.ret (Post.ret ?_); simp only [go_sem, reduceCtorEq]) | refine W.condT rfl ?_ | refine W.condF rfl ?_ | refine W.cond rfl (fun h => ?_) (fun h => ?_))
    | ((show AX _ _ _ _ _); first | (refine AX.pcall rfl rfl (by simp only [go_sem, unim_im]; rfl) (by solve_by_elim) rfl rfl ?_; simp only [go_sem, reduceCtorEq]) | (refine AX.pcallF rfl rfl (by simp only [go_sem, unim_im]; rfl) (by simp only [go_sem, unim_im]; rfl) (by solve_by_elim) rfl rfl ?_; simp only [go_sem, reduceCtorEq]) | (refine AX.lookup rfl (by first | exact tM65 | exact tM66) (by first | exact tG2 | exact tG3 | exact tG4 | exact tG5 | exact tG7 | exact tG9 | exact tG12 | exact tG13 | exact tG18 | exact tG19 | exact tG20 | exact tG21 | exact tG22 | exact tG23 | exact tG25 | exact tG26 | exact tG27 | exact tG34 | exact tG36 | exact tG37 | exact tG38 | exact tG46 | exact tG49 | exact tG50 | exact tG51 | exact tG58 | exact tG59 | exact tG65 | exact tG66 | exact tG69 | exact tG70 | exact tG72 | exact tG74 | exact tG75 | exact tG79 | exact tG80 | exact tG87 | exact tG90 | exact tG95 | exact tG96 | exact tG100 | exact tG103 | exact tG111 | exact tG117 | exact tG121 | exact tG128 | exact tG134 | exact tG142 | exact tG145 | exact tG148) (by first | exact kd9) rfl rfl rfl (by assumption) rfl ?_; simp only [go_sem, reduceCtorEq]) | (refine AX.mapUpdate rfl rfl (by first | exact tM65 | exact tM66) (by first | exact kd9) rfl rfl rfl (by assumption) rfl (by simp only [go_sem, reduceCtorEq]) ?_; simp only [go_sem, reduceCtorEq]) | (refine AX.makeMap rfl (by first | exact tM65 | exact tM66) rfl ?_; simp only [go_sem, reduceCtorEq]) | (refine AX.lenMap rfl (by first | exact tM65 | exact tM66) rfl rfl rfl ?_; simp only [go_sem, reduceCtorEq]) | (refine AX.range rfl (by first | exact tM65 | exact tM66) rfl rfl rfl ?_; simp only [go_sem, reduceCtorEq]) | (refine AX.appendStr rfl (by first | exact tL22 | exact tL23 | exact tL25 | exact tL34 | exact tL36 | exact tL50 | exact tL100) (by simp only [go_sem]) (by simp only [go_sem]) (by simp only [go_sem]) rfl rfl rfl rfl (by simp only [go_sem, reduceCtorEq]; first | omega | (simp; omega)) ?_; simp only [go_sem, reduceCtorEq]) | (refine AX.shr rfl rfl rfl rfl (by first | decide | omega) ?_; simp only [go_sem, reduceCtorEq]) | (refine AX.shl rfl rfl rfl rfl (by first | decide | omega) ?_; simp only [go_sem, reduceCtorEq]) | (refine AX.bits rfl rfl rfl (by assumption) rfl ?_; simp only [go_sem, reduceCtorEq]) | (refine AX.nilSl rfl (by first | exact tL22 | exact tL23 | exact tL25 | exact tL34 | exact tL36 | exact tL50 | exact tL100) (by first | exact .inl rfl | exact .inr rfl) rfl rfl rfl ?_; simp only [go_sem, reduceCtorEq]))
    | ((show indepK _ _ _ _ = true ∧ _); refine And.intro (by kernel_rfl) ?_)
    | ((show _ ∧ _); refine And.intro (by first | omega | assumption | (simp only [go_sem]; omega) | (simp; omega) | (simp; done)) ?_)
    | (refine hK _ ?_; clear hK K)
    | (clear hK K; refine hK _ ?_; clear hK K)
    | (clear hK K; clear hK K; refine hK _ ?_; clear hK K)
    | (clear hK K; clear hK K; clear hK K; refine hK _ ?_; clear hK K)
    | fail)
end Go.Proofs.Ytegcmciglakicaa
namespace Go.Proofs.Ytegcmciglakicaa
open Go.RowKit Go.Exe
set_option linter.unusedVariables false
set_option linter.unusedSimpArgs false
set_option maxHeartbeats 1000000
set_option maxRecDepth 100000
attribute [local irreducible] W AX Run RunD AStep AOp AOpX AStB AStH AStG Fits PCall GCall PostG Post Stop

theorem imR_sn2 (xs : List (List AV)) (a b : AV) : imR xs ++ [[.im a, .im b]] = imR (xs ++ [[a, b]]) := by simp [imR, imL]
abbrev Dl := List Nm × Int
def pkey (p : List Nm) : Value := .string ⟨(pathB p).toArray⟩
def dE (ds : List Dl) : List (Value × Bool × List Cell) := ds.map fun d => (pkey d.1, false, [.obox 38 (dlA d)])
theorem pkey_inj {p q : List Nm} : pkey p = pkey q ↔ pathB p = pathB q := by
  unfold pkey
  constructor
  · intro h
    injection h with h
    injection h with h
    simpa using congrArg Array.toList h
  · intro h; rw [h]
theorem rnEs_dE (r : Ren) (ds : List Dl) : rnEs r (dE ds) = dE ds := by
  unfold dE
  induction ds with
  | nil => rfl
  | cons d l ih => simp only [List.map_cons, rnEs, rnCs, rnC]; rw [ih]
def addD (p : List Nm) (by_ : Int) : List Dl → List Dl
  | [] => [(p, by_)]
  | d :: r => if pathB d.1 = pathB p then (d.1, IntKind.i64.wrap (d.2 + by_)) :: r else d :: addD p by_ r
theorem mget_dE_none {p : List Nm} : ∀ {ds : List Dl}, (∀ d ∈ ds, pathB d.1 ≠ pathB p) → mget (pkey p) (dE ds) = none := by
  intro ds h
  refine mget_none fun e he => ?_
  obtain ⟨d, hd, rfl⟩ := List.mem_map.1 he
  exact fun e => h d hd (pkey_inj.1 e)
theorem dE_keys (ds : List Dl) : (dE ds).map (·.1) = ds.map fun d => pkey d.1 := by simp [dE, Function.comp_def]
theorem mget_setE {key : Value} {es : List (Value × Bool × List Cell)} {i : Nat} {cs : List Cell} {c : Cell} (hn : (es.map (·.1)).Nodup) (h : es[i]? = some (key, false, cs)) : mget key (setE es i c) = some (false, [c]) := by
  rw [setE_set c h]
  have hl := (List.getElem?_eq_some_iff.1 h).1
  refine mget_at (j := i) (e := (key, false, [c])) ?_ ?_ rfl
  · have := setE_keys es i c
    rw [setE_set c h] at this
    rw [this]; exact hn
  · rw [List.getElem?_set_self hl]
theorem setE_setE : ∀ (es : List (Value × Bool × List Cell)) (i : Nat) (c d : Cell), setE (setE es i c) i d = setE es i d
  | [], _, _, _ => rfl
  | e :: r, 0, c, d => rfl
  | e :: r, i + 1, c, d => by simp [setE, setE_setE r i c d]
theorem addD_none {p : List Nm} {by_ : Int} : ∀ {ds : List Dl}, (∀ d ∈ ds, pathB d.1 ≠ pathB p) → addD p by_ ds = ds ++ [(p, by_)]
  | [], _ => rfl
  | d :: r, h => by
    have := addD_none (by_ := by_) (ds := r) fun x hx => h x (List.mem_cons_of_mem _ hx)
    simp [addD, h d (by simp), this]
theorem addD_at {p : List Nm} {by_ : Int} : ∀ {ds : List Dl} {i : Nat} {d : Dl}, (ds.map fun d => pkey d.1).Nodup → ds[i]? = some d → pathB d.1 = pathB p → dE (addD p by_ ds) = setE (dE ds) i (.obox 38 (dlA (d.1, IntKind.i64.wrap (d.2 + by_))))
  | x :: r, 0, d, _, h, hp => by simp at h; subst h; simp [addD, hp, dE, setE]
  | x :: r, i + 1, d, hn, h, hp => by
    simp only [List.map_cons, List.nodup_cons] at hn
    have hne : pathB x.1 ≠ pathB p := by
      intro e
      refine hn.1 (List.mem_map.2 ⟨d, List.mem_of_getElem? (by simpa using h), ?_⟩)
      rw [pkey_inj, hp, e]
    have := addD_at (by_ := by_) (ds := r) (i := i) hn.2 (by simpa using h) hp
    simp only [addD, if_neg hne]
    simp only [dE, List.map_cons, setE] at this ⊢
    rw [this]
theorem addD_keys {p : List Nm} {by_ : Int} : ∀ {ds : List Dl}, (ds.map fun d => pkey d.1).Nodup → ((addD p by_ ds).map fun d => pkey d.1).Nodup := by
  intro ds hn
  by_cases h : ∃ d ∈ ds, pathB d.1 = pathB p
  · have : ∀ {ds : List Dl}, (∃ d ∈ ds, pathB d.1 = pathB p) → (addD p by_ ds).map (fun d => pkey d.1) = ds.map fun d => pkey d.1 := by
      intro ds
      induction ds with
      | nil => rintro ⟨d, hd, _⟩; simp at hd
      | cons x r ih =>
        rintro ⟨d, hd, he⟩
        simp only [addD]
        split
        · rfl
        · rename_i hx
          have : ∃ d ∈ r, pathB d.1 = pathB p := by
            rcases List.mem_cons.1 hd with rfl | hd
            · exact absurd he hx
            · exact ⟨d, hd, he⟩
          simp [ih this]
    rw [this h]; exact hn
  · have h' : ∀ d ∈ ds, pathB d.1 ≠ pathB p := fun d hd e => h ⟨d, hd, e⟩
    rw [addD_none h', List.map_append]
    refine List.nodup_append.2 ⟨hn, by simp, fun x hx y hy => ?_⟩
    simp at hy; subst hy
    obtain ⟨d, hd, rfl⟩ := List.mem_map.1 hx
    exact fun e => h' d hd (pkey_inj.1 e)
mutual
def Shp.addS (by_ : Int) : Shp → List Nm → List Dl → List Dl
  | .mk s o ks, above, ds => addsS by_ ks (above ++ [(s, o)]) (addD (above ++ [(s, o)]) by_ ds)
def addsS (by_ : Int) : List Shp → List Nm → List Dl → List Dl
  | [], _, ds => ds
  | x :: r, path, ds => addsS by_ r path (x.addS by_ path ds)
end
mutual
def Shp.tw : Shp → Nat
  | .mk s o ks => 32 + s.size + o.size + tws ks
def tws : List Shp → Nat
  | [] => 0
  | x :: r => x.tw + tws r
end
theorem tws_mem : ∀ {l : List Shp} {x : Shp}, x ∈ l → x.tw ≤ tws l
  | y :: r, x, h => by
    rcases List.mem_cons.1 h with rfl | h
    · simp [tws]
    · have := tws_mem h; simp only [tws]; omega
theorem tws_len : ∀ l : List Shp, l.length ≤ tws l
  | [] => by simp [tws]
  | .mk s o ks :: r => by have := tws_len r; simp only [tws, Shp.tw, List.length_cons]; omega
theorem pathW_len : ∀ l : List Nm, 32 * l.length ≤ pathW l
  | [] => by simp
  | n :: r => by have := pathW_len r; simp only [pathW, List.length_cons]; omega
mutual
theorem addS_keys (by_ : Int) : ∀ (x : Shp) (above : List Nm) (ds : List Dl), (ds.map fun d => pkey d.1).Nodup → ((x.addS by_ above ds).map fun d => pkey d.1).Nodup
  | .mk s o ks, above, ds, h => by simp only [Shp.addS]; exact addsS_keys by_ ks _ _ (addD_keys h)
theorem addsS_keys (by_ : Int) : ∀ (l : List Shp) (path : List Nm) (ds : List Dl), (ds.map fun d => pkey d.1).Nodup → ((addsS by_ l path ds).map fun d => pkey d.1).Nodup
  | [], _, _, h => h
  | x :: r, path, ds, h => by simp only [addsS]; exact addsS_keys by_ r _ _ (addS_keys by_ x _ _ h)
end
theorem addsS_app (by_ : Int) : ∀ (l m : List Shp) (path : List Nm) (ds : List Dl), addsS by_ (l ++ m) path ds = addsS by_ m path (addsS by_ l path ds)
  | [], _, _, _ => rfl
  | x :: r, m, path, ds => by simp [addsS, addsS_app by_ r m]
def AddC (by_ : Int) (x : Shp) : Prop := ∀ (above : List Nm) (ds : List Dl), (ds.map fun d => pkey d.1).Nodup → pathW above + x.tw ≤ 140737488355328 →
  GCall Try.prog 38 1 (St.g [.c (.mp 0), shT x, .c (.im (.sl 59 (above.map nmA))), ft (.int .i64 by_)] [(0, .map 9 (dE ds))] 1) (St.r (.t []) [(0, .map 9 (dE (x.addS by_ above ds)))] 1)
theorem add_c (by_ : Int) (hby : IntKind.i64.wrap (0 + by_) = by_) (s o : ByteArray) (ks : List Shp) (ih : ∀ x ∈ ks, AddC by_ x) : AddC by_ (.mk s o ks) := by
  intro above ds hn hW
  simp only [Shp.tw] at hW
  have hpl := pathW_len above
  have hpw : pathW (above ++ [(s, o)]) ≤ 140737488355328 := by rw [pathW_app]; simp only [pathW]; omega
  have ck := pathKey_c (above ++ [(s, o)]) hpw
  simp only [List.map_append, List.map_cons, List.map_nil, nmA] at ck
  have hkl := pathB_len (above ++ [(s, o)]) (by omega)
  have hko : KeyOk Try.prog 9 (.string ⟨(pathB (above ++ [(s, o)])).toArray⟩) := ⟨_, _root_.Go.WideMaps.keyOf_string_mk tU9 (by rw [maxLen_is]; show (pathB _).toArray.size ≤ _; simp only [List.size_toArray]; omega)⟩
  simp only [shT_mk]
  refine GCall.introG (nt := 55) (rs := []) Try.func38 rfl ⟨by kernel_rfl, by kernel_rfl, by kernel_rfl⟩ (by simp) ?_
  rintro ⟨P, w0, ok0, may, np, pblk⟩ rfl rfl
  simp only [go_sem]
  repeat' (first
    | ((show W _ _ _ _); first | (refine W.seq fun K hK => ?_) | refine W.block ?_ | (refine W.reg rfl ?_; simp only [go_sem, reduceCtorEq]) | (refine W.regD Try_mo rfl rfl ?_; simp only [go_sem, reduceCtorEq]) | (refine W.skip ?_; simp only [go_sem]) | (refine W.exit ?_; simp only [go_sem]) | (refine W.ret (Post.ret ?_); simp only [go_sem, reduceCtorEq]) | refine W.condT rfl ?_ | refine W.condF rfl ?_ | refine W.cond rfl (fun h => ?_) (fun h => ?_))
    | ((show AX _ _ _ _ _); first | (refine AX.pcall rfl rfl (by simp only [go_sem, unim_im]; rfl) (by solve_by_elim) rfl rfl ?_; simp only [go_sem, reduceCtorEq]) | (refine AX.pcallF rfl rfl (by simp only [go_sem, unim_im]; rfl) (by simp only [go_sem, unim_im]; rfl) (by solve_by_elim) rfl rfl ?_; simp only [go_sem, reduceCtorEq]) | (refine AX.lookup rfl (by first | exact tM65 | exact tM66) (by first | exact tG2 | exact tG3 | exact tG4 | exact tG5 | exact tG7 | exact tG9 | exact tG12 | exact tG13 | exact tG18 | exact tG19 | exact tG20 | exact tG21 | exact tG22 | exact tG23 | exact tG25 | exact tG26 | exact tG27 | exact tG34 | exact tG36 | exact tG37 | exact tG38 | exact tG46 | exact tG49 | exact tG50 | exact tG51 | exact tG58 | exact tG59 | exact tG65 | exact tG66 | exact tG69 | exact tG70 | exact tG72 | exact tG74 | exact tG75 | exact tG79 | exact tG80 | exact tG87 | exact tG90 | exact tG95 | exact tG96 | exact tG100 | exact tG103 | exact tG111 | exact tG117 | exact tG121 | exact tG128 | exact tG134 | exact tG142 | exact tG145 | exact tG148) (by first | exact kd9) rfl rfl rfl (by assumption) rfl ?_; simp only [go_sem, reduceCtorEq]) | (refine AX.mapUpdate rfl rfl (by first | exact tM65 | exact tM66) (by first | exact kd9) rfl rfl rfl (by assumption) rfl (by simp only [go_sem, reduceCtorEq]) ?_; simp only [go_sem, reduceCtorEq]) | (refine AX.makeMap rfl (by first | exact tM65 | exact tM66) rfl ?_; simp only [go_sem, reduceCtorEq]) | (refine AX.lenMap rfl (by first | exact tM65 | exact tM66) rfl rfl rfl ?_; simp only [go_sem, reduceCtorEq]) | (refine AX.range rfl (by first | exact tM65 | exact tM66) rfl rfl rfl ?_; simp only [go_sem, reduceCtorEq]) | (refine AX.appendStr rfl (by first | exact tL22 | exact tL23 | exact tL25 | exact tL34 | exact tL36 | exact tL50 | exact tL100) (by simp only [go_sem]) (by simp only [go_sem]) (by simp only [go_sem]) rfl rfl rfl rfl (by simp only [go_sem, reduceCtorEq]; first | omega | (simp; omega)) ?_; simp only [go_sem, reduceCtorEq]) | (refine AX.shr rfl rfl rfl rfl (by first | decide | omega) ?_; simp only [go_sem, reduceCtorEq]) | (refine AX.shl rfl rfl rfl rfl (by first | decide | omega) ?_; simp only [go_sem, reduceCtorEq]) | (refine AX.bits rfl rfl rfl (by assumption) rfl ?_; simp only [go_sem, reduceCtorEq]) | (refine AX.nilSl rfl (by first | exact tL22 | exact tL23 | exact tL25 | exact tL34 | exact tL36 | exact tL50 | exact tL100) (by first | exact .inl rfl | exact .inr rfl) rfl rfl rfl ?_; simp only [go_sem, reduceCtorEq]))
    | ((show indepK _ _ _ _ = true ∧ _); refine And.intro (by kernel_rfl) ?_)
    | ((show _ ∧ _); refine And.intro (by first | omega | assumption | (simp only [go_sem]; omega) | (simp; omega) | (simp; done)) ?_)
    | (refine hK _ ?_; clear hK K)
    | (clear hK K; refine hK _ ?_; clear hK K)
    | (clear hK K; clear hK K; refine hK _ ?_; clear hK K)
    | (clear hK K; clear hK K; clear hK K; refine hK _ ?_; clear hK K)
    | fail)
  refine AX.gcall [] rfl rfl (clone_c above) (by simp only [go_sem, reduceCtorEq, imR_sn2]) (by simp only [go_sem, reduceCtorEq, imR_sn2]) rfl rfl (by simp only [go_sem, Obj.owns]) rfl (by simp only [go_sem, Obj.owns]) rfl rfl ?_
  simp only [go_sem, reduceCtorEq, imR_sn2]
  repeat' (first
    | ((show W _ _ _ _); first | refine W.stop (id := 3) ?_ | (refine W.seq fun K hK => ?_) | refine W.block ?_ | (refine W.reg rfl ?_; simp only [go_sem, reduceCtorEq, imR_sn2]) | (refine W.regD Try_mo rfl rfl ?_; simp only [go_sem, reduceCtorEq, imR_sn2]) | (refine W.skip ?_; simp only [go_sem]) | (refine W.exit ?_; simp only [go_sem]) | (refine W.ret (Post.ret ?_); simp only [go_sem, reduceCtorEq, imR_sn2]) | refine W.condT rfl ?_ | refine W.condF rfl ?_ | refine W.cond rfl (fun h => ?_) (fun h => ?_))
    | ((show AX _ _ _ _ _); first | (refine AX.pcall rfl rfl (by simp only [go_sem, unim_im]; rfl) (by solve_by_elim) rfl rfl ?_; simp only [go_sem, reduceCtorEq, imR_sn2]) | (refine AX.pcallF rfl rfl (by simp only [go_sem, unim_im]; rfl) (by simp only [go_sem, unim_im]; rfl) (by solve_by_elim) rfl rfl ?_; simp only [go_sem, reduceCtorEq, imR_sn2]) | (refine AX.lookup rfl (by first | exact tM65 | exact tM66) (by first | exact tG2 | exact tG3 | exact tG4 | exact tG5 | exact tG7 | exact tG9 | exact tG12 | exact tG13 | exact tG18 | exact tG19 | exact tG20 | exact tG21 | exact tG22 | exact tG23 | exact tG25 | exact tG26 | exact tG27 | exact tG34 | exact tG36 | exact tG37 | exact tG38 | exact tG46 | exact tG49 | exact tG50 | exact tG51 | exact tG58 | exact tG59 | exact tG65 | exact tG66 | exact tG69 | exact tG70 | exact tG72 | exact tG74 | exact tG75 | exact tG79 | exact tG80 | exact tG87 | exact tG90 | exact tG95 | exact tG96 | exact tG100 | exact tG103 | exact tG111 | exact tG117 | exact tG121 | exact tG128 | exact tG134 | exact tG142 | exact tG145 | exact tG148) (by first | exact kd9) rfl rfl rfl (by assumption) rfl ?_; simp only [go_sem, reduceCtorEq, imR_sn2]) | (refine AX.mapUpdate rfl rfl (by first | exact tM65 | exact tM66) (by first | exact kd9) rfl rfl rfl (by assumption) rfl (by simp only [go_sem, reduceCtorEq, imR_sn2]) ?_; simp only [go_sem, reduceCtorEq, imR_sn2]) | (refine AX.makeMap rfl (by first | exact tM65 | exact tM66) rfl ?_; simp only [go_sem, reduceCtorEq, imR_sn2]) | (refine AX.lenMap rfl (by first | exact tM65 | exact tM66) rfl rfl rfl ?_; simp only [go_sem, reduceCtorEq, imR_sn2]) | (refine AX.range rfl (by first | exact tM65 | exact tM66) rfl rfl rfl ?_; simp only [go_sem, reduceCtorEq, imR_sn2]) | (refine AX.appendStr rfl (by first | exact tL22 | exact tL23 | exact tL25 | exact tL34 | exact tL36 | exact tL50 | exact tL100) (by simp only [go_sem]) (by simp only [go_sem]) (by simp only [go_sem]) rfl rfl rfl rfl (by simp only [go_sem, reduceCtorEq, imR_sn2]; first | omega | (simp; omega)) ?_; simp only [go_sem, reduceCtorEq, imR_sn2]) | (refine AX.shr rfl rfl rfl rfl (by first | decide | omega) ?_; simp only [go_sem, reduceCtorEq, imR_sn2]) | (refine AX.shl rfl rfl rfl rfl (by first | decide | omega) ?_; simp only [go_sem, reduceCtorEq, imR_sn2]) | (refine AX.bits rfl rfl rfl (by assumption) rfl ?_; simp only [go_sem, reduceCtorEq, imR_sn2]) | (refine AX.nilSl rfl (by first | exact tL22 | exact tL23 | exact tL25 | exact tL34 | exact tL36 | exact tL50 | exact tL100) (by first | exact .inl rfl | exact .inr rfl) rfl rfl rfl ?_; simp only [go_sem, reduceCtorEq, imR_sn2]))
    | ((show indepK _ _ _ _ = true ∧ _); refine And.intro (by kernel_rfl) ?_)
    | ((show _ ∧ _); refine And.intro (by first | omega | assumption | (simp only [go_sem]; omega) | (simp; omega) | (simp; done)) ?_)
    | (refine hK _ ?_; clear hK K)
    | (clear hK K; refine hK _ ?_; clear hK K)
    | (clear hK K; clear hK K; refine hK _ ?_; clear hK K)
    | (clear hK K; clear hK K; clear hK K; refine hK _ ?_; clear hK K)
    | fail)
  refine Stop.out ?_
  have hpath : above.map nmA ++ [[AV.flat (.string s), AV.flat (.string o)]] = (above ++ [(s, o)]).map nmA := by simp [nmA]
  refine W.fits (s' := { t := [(0, .c (.mp 0)), (3, ft (.int .i64 by_)), (5, .c (.ptr 1 0)), (8, .c (.im (.sl 59 ((above ++ [(s, o)]).map nmA)))), (9, ft (.string ⟨(pathB (above ++ [(s, o)])).toArray⟩))], h := [(0, .map 9 (dE ds)), (1, .box 27 [fl (.string s), fl (.string o), .im (.sl 27 (avs ks))])], nx := 2, ex := [], nt := 55 }) (Fits.freeze 10 rfl (unim_im _) ?_) ?_
  · simp only [go_sem]
    refine Fits.seeT 8 10 rfl (.inl rfl) rfl ?_
    refine Fits.fit [(0, 0), (1, 1)] [0, 3, 5, 8, 9] 2 rfl rfl ?_
    simp only [go_sem, hpath, rnEs_dE]
    exact Fits.rfl
  have hWx : ∀ x ∈ ks, pathW (above ++ [(s, o)]) + x.tw ≤ 140737488355328 := fun x hx => by
    have := tws_mem hx
    rw [pathW_app]; simp only [pathW]; omega
  have hS : (Shp.mk s o ks).addS by_ above ds = addsS by_ ks (above ++ [(s, o)]) (addD (above ++ [(s, o)]) by_ ds) := by simp only [Shp.addS]
  have hkn : ks.length ≤ 140737488355328 := by have := tws_len ks; omega
  clear hpath ck hW hpl
  generalize above ++ [(s, o)] = p at hpw hkl hko hWx hS ⊢
  have hpk : Value.string ⟨(pathB p).toArray⟩ = pkey p := rfl
  by_cases hex : ∃ d ∈ ds, pathB d.1 = pathB p
  · obtain ⟨d, hdm, hdp⟩ := hex
    obtain ⟨i, hdi⟩ := List.getElem?_of_mem hdm
    have hei : (dE ds)[i]? = some (pkey p, false, [.obox 38 (dlA d)]) := by
      simp only [dE, List.getElem?_map, hdi, Option.map_some]
      rw [pkey_inj.2 hdp]
    have hget : mget (Value.string ⟨(pathB p).toArray⟩) (setE (dE ds) i (.ptr 2 0)) = some (false, [.ptr 2 0]) := mget_setE (by rw [dE_keys]; exact hn) hei
    refine W.fits (s' := { t := [(0, .c (.mp 0)), (3, ft (.int .i64 by_)), (5, .c (.ptr 1 0)), (8, .c (.im (.sl 59 (p.map nmA)))), (9, ft (.string ⟨(pathB p).toArray⟩))], h := [(0, .map 9 (setE (dE ds) i (.ptr 2 0))), (1, .box 27 [fl (.string s), fl (.string o), .im (.sl 27 (avs ks))]), (2, .box 38 [.im (.sl 59 (d.1.map nmA)), fl (.int .i64 d.2)])], nx := 3, ex := [], nt := 55 })
      (Fits.unf 0 i 0 2 (c := .obox 38 (dlA d)) rfl rfl (by simp only [Obj.slot, hei]) rfl rfl ?_) ?_
    · simp only [go_sem]
      refine Fits.fit [(0, 0), (1, 1), (2, 2)] [0, 3, 5, 8, 9] 3 rfl rfl ?_
      simp only [go_sem, dlA, imL, rnEs_dE]
      exact Fits.rfl
    repeat' (first
      | ((show W _ _ _ _); first | refine W.stop (id := 6) ?_ | (refine W.seq fun K hK => ?_) | refine W.block ?_ | (refine W.reg rfl ?_; simp only [go_sem, reduceCtorEq, hget]) | (refine W.regD Try_mo rfl rfl ?_; simp only [go_sem, reduceCtorEq, hget]) | (refine W.skip ?_; simp only [go_sem]) | (refine W.exit ?_; simp only [go_sem]) | (refine W.ret (Post.ret ?_); simp only [go_sem, reduceCtorEq, hget]) | refine W.condT rfl ?_ | refine W.condF rfl ?_ | refine W.cond rfl (fun h => ?_) (fun h => ?_))
      | ((show AX _ _ _ _ _); first | (refine AX.pcall rfl rfl (by simp only [go_sem, unim_im]; rfl) (by solve_by_elim) rfl rfl ?_; simp only [go_sem, reduceCtorEq, hget]) | (refine AX.pcallF rfl rfl (by simp only [go_sem, unim_im]; rfl) (by simp only [go_sem, unim_im]; rfl) (by solve_by_elim) rfl rfl ?_; simp only [go_sem, reduceCtorEq, hget]) | (refine AX.lookup rfl (by first | exact tM65 | exact tM66) (by first | exact tG2 | exact tG3 | exact tG4 | exact tG5 | exact tG7 | exact tG9 | exact tG12 | exact tG13 | exact tG18 | exact tG19 | exact tG20 | exact tG21 | exact tG22 | exact tG23 | exact tG25 | exact tG26 | exact tG27 | exact tG34 | exact tG36 | exact tG37 | exact tG38 | exact tG46 | exact tG49 | exact tG50 | exact tG51 | exact tG58 | exact tG59 | exact tG65 | exact tG66 | exact tG69 | exact tG70 | exact tG72 | exact tG74 | exact tG75 | exact tG79 | exact tG80 | exact tG87 | exact tG90 | exact tG95 | exact tG96 | exact tG100 | exact tG103 | exact tG111 | exact tG117 | exact tG121 | exact tG128 | exact tG134 | exact tG142 | exact tG145 | exact tG148) (by first | exact kd9) rfl rfl rfl (by assumption) rfl ?_; simp only [go_sem, reduceCtorEq, hget]) | (refine AX.mapUpdate rfl rfl (by first | exact tM65 | exact tM66) (by first | exact kd9) rfl rfl rfl (by assumption) rfl (by simp only [go_sem, reduceCtorEq, hget]) ?_; simp only [go_sem, reduceCtorEq, hget]) | (refine AX.makeMap rfl (by first | exact tM65 | exact tM66) rfl ?_; simp only [go_sem, reduceCtorEq, hget]) | (refine AX.lenMap rfl (by first | exact tM65 | exact tM66) rfl rfl rfl ?_; simp only [go_sem, reduceCtorEq, hget]) | (refine AX.range rfl (by first | exact tM65 | exact tM66) rfl rfl rfl ?_; simp only [go_sem, reduceCtorEq, hget]) | (refine AX.appendStr rfl (by first | exact tL22 | exact tL23 | exact tL25 | exact tL34 | exact tL36 | exact tL50 | exact tL100) (by simp only [go_sem]) (by simp only [go_sem]) (by simp only [go_sem]) rfl rfl rfl rfl (by simp only [go_sem, reduceCtorEq, hget]; first | omega | (simp; omega)) ?_; simp only [go_sem, reduceCtorEq, hget]) | (refine AX.shr rfl rfl rfl rfl (by first | decide | omega) ?_; simp only [go_sem, reduceCtorEq, hget]) | (refine AX.shl rfl rfl rfl rfl (by first | decide | omega) ?_; simp only [go_sem, reduceCtorEq, hget]) | (refine AX.bits rfl rfl rfl (by assumption) rfl ?_; simp only [go_sem, reduceCtorEq, hget]) | (refine AX.nilSl rfl (by first | exact tL22 | exact tL23 | exact tL25 | exact tL34 | exact tL36 | exact tL50 | exact tL100) (by first | exact .inl rfl | exact .inr rfl) rfl rfl rfl ?_; simp only [go_sem, reduceCtorEq, hget]))
      | ((show indepK _ _ _ _ = true ∧ _); refine And.intro (by kernel_rfl) ?_)
      | ((show _ ∧ _); refine And.intro (by first | omega | assumption | (simp only [go_sem]; omega) | (simp; omega) | (simp; done)) ?_)
      | (refine hK _ ?_; clear hK K)
      | (clear hK K; refine hK _ ?_; clear hK K)
      | (clear hK K; clear hK K; refine hK _ ?_; clear hK K)
      | (clear hK K; clear hK K; clear hK K; refine hK _ ?_; clear hK K)
      | fail)
    refine Stop.out ?_
    refine W.fits (s' := { t := [(0, .c (.mp 0)), (3, ft (.int .i64 by_)), (5, .c (.ptr 1 0)), (8, .c (.im (.sl 59 (p.map nmA))))], h := [(0, .map 9 (dE (addD p by_ ds))), (1, .box 27 [fl (.string s), fl (.string o), .im (.sl 27 (avs ks))])], nx := 2, ex := [], nt := 55 }) ?_ ?_
    · refine Fits.fold 0 i 0 2 (.obox 38 (dlA (d.1, IntKind.i64.wrap (d.2 + by_)))) rfl rfl rfl (by simp only [Obj.slot, setE_set _ hei, List.getElem?_set_self (List.getElem?_eq_some_iff.1 hei).1]; rfl) (by decide) ?_
      simp only [go_sem, setE_setE, ← addD_at hn hdi hdp]
      refine Fits.fit [(0, 0), (1, 1)] [0, 3, 5, 8] 2 rfl rfl ?_
      simp only [go_sem, rnEs_dE]
      exact Fits.rfl
    repeat' (first
      | ((show W _ _ _ _); first | (refine W.seq fun K hK => ?_) | refine W.block ?_ | (refine W.reg rfl ?_; simp only [go_sem, reduceCtorEq, avs_len]) | (refine W.regD Try_mo rfl rfl ?_; simp only [go_sem, reduceCtorEq, avs_len]) | (refine W.skip ?_; simp only [go_sem]) | (refine W.exit ?_; simp only [go_sem]) | (refine W.ret (Post.ret ?_); simp only [go_sem, reduceCtorEq, avs_len]) | refine W.condT rfl ?_ | refine W.condF rfl ?_ | refine W.cond rfl (fun h => ?_) (fun h => ?_))
      | ((show AX _ _ _ _ _); first | (refine AX.pcall rfl rfl (by simp only [go_sem, unim_im]; rfl) (by solve_by_elim) rfl rfl ?_; simp only [go_sem, reduceCtorEq, avs_len]) | (refine AX.pcallF rfl rfl (by simp only [go_sem, unim_im]; rfl) (by simp only [go_sem, unim_im]; rfl) (by solve_by_elim) rfl rfl ?_; simp only [go_sem, reduceCtorEq, avs_len]) | (refine AX.lookup rfl (by first | exact tM65 | exact tM66) (by first | exact tG2 | exact tG3 | exact tG4 | exact tG5 | exact tG7 | exact tG9 | exact tG12 | exact tG13 | exact tG18 | exact tG19 | exact tG20 | exact tG21 | exact tG22 | exact tG23 | exact tG25 | exact tG26 | exact tG27 | exact tG34 | exact tG36 | exact tG37 | exact tG38 | exact tG46 | exact tG49 | exact tG50 | exact tG51 | exact tG58 | exact tG59 | exact tG65 | exact tG66 | exact tG69 | exact tG70 | exact tG72 | exact tG74 | exact tG75 | exact tG79 | exact tG80 | exact tG87 | exact tG90 | exact tG95 | exact tG96 | exact tG100 | exact tG103 | exact tG111 | exact tG117 | exact tG121 | exact tG128 | exact tG134 | exact tG142 | exact tG145 | exact tG148) (by first | exact kd9) rfl rfl rfl (by assumption) rfl ?_; simp only [go_sem, reduceCtorEq, avs_len]) | (refine AX.mapUpdate rfl rfl (by first | exact tM65 | exact tM66) (by first | exact kd9) rfl rfl rfl (by assumption) rfl (by simp only [go_sem, reduceCtorEq, avs_len]) ?_; simp only [go_sem, reduceCtorEq, avs_len]) | (refine AX.makeMap rfl (by first | exact tM65 | exact tM66) rfl ?_; simp only [go_sem, reduceCtorEq, avs_len]) | (refine AX.lenMap rfl (by first | exact tM65 | exact tM66) rfl rfl rfl ?_; simp only [go_sem, reduceCtorEq, avs_len]) | (refine AX.range rfl (by first | exact tM65 | exact tM66) rfl rfl rfl ?_; simp only [go_sem, reduceCtorEq, avs_len]) | (refine AX.appendStr rfl (by first | exact tL22 | exact tL23 | exact tL25 | exact tL34 | exact tL36 | exact tL50 | exact tL100) (by simp only [go_sem]) (by simp only [go_sem]) (by simp only [go_sem]) rfl rfl rfl rfl (by simp only [go_sem, reduceCtorEq, avs_len]; first | omega | (simp; omega)) ?_; simp only [go_sem, reduceCtorEq, avs_len]) | (refine AX.shr rfl rfl rfl rfl (by first | decide | omega) ?_; simp only [go_sem, reduceCtorEq, avs_len]) | (refine AX.shl rfl rfl rfl rfl (by first | decide | omega) ?_; simp only [go_sem, reduceCtorEq, avs_len]) | (refine AX.bits rfl rfl rfl (by assumption) rfl ?_; simp only [go_sem, reduceCtorEq, avs_len]) | (refine AX.nilSl rfl (by first | exact tL22 | exact tL23 | exact tL25 | exact tL34 | exact tL36 | exact tL50 | exact tL100) (by first | exact .inl rfl | exact .inr rfl) rfl rfl rfl ?_; simp only [go_sem, reduceCtorEq, avs_len]))
      | ((show indepK _ _ _ _ = true ∧ _); refine And.intro (by kernel_rfl) ?_)
      | ((show _ ∧ _); refine And.intro (by first | omega | assumption | (simp only [go_sem]; omega) | (simp; omega) | (simp; done)) ?_)
      | (refine hK _ ?_; clear hK K)
      | (clear hK K; refine hK _ ?_; clear hK K)
      | (clear hK K; clear hK K; refine hK _ ?_; clear hK K)
      | (clear hK K; clear hK K; clear hK K; refine hK _ ?_; clear hK K)
      | fail)
    refine W.loopF (T := fun j : Nat => { t := [(0, .c (.mp 0)), (3, ft (.int .i64 by_)), (8, .c (.im (.sl 59 (p.map nmA)))), (43, .c (.im (.sl 27 (avs ks)))), (44, ft (.int .i64 ks.length)), (45, ft (.int .i64 (j : Nat)))], h := [(0, .map 9 (dE (addsS by_ (ks.take j) p (addD p by_ ds))))], nx := 1, ex := [], nt := 55 })
      (Inv := fun i => i ≤ ks.length) (μ := fun i => ks.length - i) (x0 := 0) (Fits.fit [(0, 0)] [0, 3, 8, 43, 44, 45] 1 rfl rfl ?_) (Nat.zero_le _) ?_
    · simp only [go_sem, rnEs_dE, addsS]
      exact Fits.rfl
    intro j hi KL hKL
    by_cases hlt : j < ks.length
    · obtain ⟨⟨s', o', ks'⟩, hx, hm, hd⟩ := drop_at hlt
      have e1 : decide ((j : Int) < ks.length) = true := by simp; omega
      have hw := w64s j (by omega)
      have hc := ih _ hm p (addsS by_ (ks.take j) p (addD p by_ ds)) (addsS_keys by_ _ _ _ (addD_keys hn)) (hWx _ hm)
      simp only [shT_mk] at hc
      repeat' (first
        | ((show W _ _ _ _); first | (refine W.seq fun K hK => ?_) | refine W.block ?_ | (refine W.reg rfl ?_; simp only [go_sem, reduceCtorEq, e1, hw, avs_get, hx, Shp.av]) | (refine W.regD Try_mo rfl rfl ?_; simp only [go_sem, reduceCtorEq, e1, hw, avs_get, hx, Shp.av]) | (refine W.skip ?_; simp only [go_sem]) | (refine W.exit ?_; simp only [go_sem]) | (refine W.ret (Post.ret ?_); simp only [go_sem, reduceCtorEq, e1, hw, avs_get, hx, Shp.av]) | refine W.condT rfl ?_ | refine W.condF rfl ?_ | refine W.cond rfl (fun h => ?_) (fun h => ?_))
        | ((show AX _ _ _ _ _); first | (refine AX.pcall rfl rfl (by simp only [go_sem, unim_im]; rfl) (by solve_by_elim) rfl rfl ?_; simp only [go_sem, reduceCtorEq, e1, hw, avs_get, hx, Shp.av]) | (refine AX.pcallF rfl rfl (by simp only [go_sem, unim_im]; rfl) (by simp only [go_sem, unim_im]; rfl) (by solve_by_elim) rfl rfl ?_; simp only [go_sem, reduceCtorEq, e1, hw, avs_get, hx, Shp.av]) | (refine AX.lookup rfl (by first | exact tM65 | exact tM66) (by first | exact tG2 | exact tG3 | exact tG4 | exact tG5 | exact tG7 | exact tG9 | exact tG12 | exact tG13 | exact tG18 | exact tG19 | exact tG20 | exact tG21 | exact tG22 | exact tG23 | exact tG25 | exact tG26 | exact tG27 | exact tG34 | exact tG36 | exact tG37 | exact tG38 | exact tG46 | exact tG49 | exact tG50 | exact tG51 | exact tG58 | exact tG59 | exact tG65 | exact tG66 | exact tG69 | exact tG70 | exact tG72 | exact tG74 | exact tG75 | exact tG79 | exact tG80 | exact tG87 | exact tG90 | exact tG95 | exact tG96 | exact tG100 | exact tG103 | exact tG111 | exact tG117 | exact tG121 | exact tG128 | exact tG134 | exact tG142 | exact tG145 | exact tG148) (by first | exact kd9) rfl rfl rfl (by assumption) rfl ?_; simp only [go_sem, reduceCtorEq, e1, hw, avs_get, hx, Shp.av]) | (refine AX.mapUpdate rfl rfl (by first | exact tM65 | exact tM66) (by first | exact kd9) rfl rfl rfl (by assumption) rfl (by simp only [go_sem, reduceCtorEq, e1, hw, avs_get, hx, Shp.av]) ?_; simp only [go_sem, reduceCtorEq, e1, hw, avs_get, hx, Shp.av]) | (refine AX.makeMap rfl (by first | exact tM65 | exact tM66) rfl ?_; simp only [go_sem, reduceCtorEq, e1, hw, avs_get, hx, Shp.av]) | (refine AX.lenMap rfl (by first | exact tM65 | exact tM66) rfl rfl rfl ?_; simp only [go_sem, reduceCtorEq, e1, hw, avs_get, hx, Shp.av]) | (refine AX.range rfl (by first | exact tM65 | exact tM66) rfl rfl rfl ?_; simp only [go_sem, reduceCtorEq, e1, hw, avs_get, hx, Shp.av]) | (refine AX.appendStr rfl (by first | exact tL22 | exact tL23 | exact tL25 | exact tL34 | exact tL36 | exact tL50 | exact tL100) (by simp only [go_sem]) (by simp only [go_sem]) (by simp only [go_sem]) rfl rfl rfl rfl (by simp only [go_sem, reduceCtorEq, e1, hw, avs_get, hx, Shp.av]; first | omega | (simp; omega)) ?_; simp only [go_sem, reduceCtorEq, e1, hw, avs_get, hx, Shp.av]) | (refine AX.shr rfl rfl rfl rfl (by first | decide | omega) ?_; simp only [go_sem, reduceCtorEq, e1, hw, avs_get, hx, Shp.av]) | (refine AX.shl rfl rfl rfl rfl (by first | decide | omega) ?_; simp only [go_sem, reduceCtorEq, e1, hw, avs_get, hx, Shp.av]) | (refine AX.bits rfl rfl rfl (by assumption) rfl ?_; simp only [go_sem, reduceCtorEq, e1, hw, avs_get, hx, Shp.av]) | (refine AX.nilSl rfl (by first | exact tL22 | exact tL23 | exact tL25 | exact tL34 | exact tL36 | exact tL50 | exact tL100) (by first | exact .inl rfl | exact .inr rfl) rfl rfl rfl ?_; simp only [go_sem, reduceCtorEq, e1, hw, avs_get, hx, Shp.av]))
        | ((show indepK _ _ _ _ = true ∧ _); refine And.intro (by kernel_rfl) ?_)
        | ((show _ ∧ _); refine And.intro (by first | omega | assumption | (simp only [go_sem]; omega) | (simp; omega) | (simp; done)) ?_)
        | (refine hK _ ?_; clear hK K)
        | (clear hK K; refine hK _ ?_; clear hK K)
        | (clear hK K; clear hK K; refine hK _ ?_; clear hK K)
        | (clear hK K; clear hK K; clear hK K; refine hK _ ?_; clear hK K)
        | fail)
      refine AX.gcall [0] rfl rfl (hc) (by simp only [go_sem, reduceCtorEq, rnEs_dE]) (by simp only [go_sem, reduceCtorEq, rnEs_dE]) rfl rfl (by simp only [go_sem, Obj.owns]) rfl (by simp only [go_sem, Obj.owns]) rfl rfl ?_
      simp only [go_sem, reduceCtorEq, rnEs_dE]
      repeat' (first
        | ((show W _ _ _ _); first | (refine W.seq fun K hK => ?_) | refine W.block ?_ | (refine W.reg rfl ?_; simp only [go_sem, reduceCtorEq, hw]) | (refine W.regD Try_mo rfl rfl ?_; simp only [go_sem, reduceCtorEq, hw]) | (refine W.skip ?_; simp only [go_sem]) | (refine W.exit ?_; simp only [go_sem]) | (refine W.ret (Post.ret ?_); simp only [go_sem, reduceCtorEq, hw]) | refine W.condT rfl ?_ | refine W.condF rfl ?_ | refine W.cond rfl (fun h => ?_) (fun h => ?_))
        | ((show AX _ _ _ _ _); first | (refine AX.pcall rfl rfl (by simp only [go_sem, unim_im]; rfl) (by solve_by_elim) rfl rfl ?_; simp only [go_sem, reduceCtorEq, hw]) | (refine AX.pcallF rfl rfl (by simp only [go_sem, unim_im]; rfl) (by simp only [go_sem, unim_im]; rfl) (by solve_by_elim) rfl rfl ?_; simp only [go_sem, reduceCtorEq, hw]) | (refine AX.lookup rfl (by first | exact tM65 | exact tM66) (by first | exact tG2 | exact tG3 | exact tG4 | exact tG5 | exact tG7 | exact tG9 | exact tG12 | exact tG13 | exact tG18 | exact tG19 | exact tG20 | exact tG21 | exact tG22 | exact tG23 | exact tG25 | exact tG26 | exact tG27 | exact tG34 | exact tG36 | exact tG37 | exact tG38 | exact tG46 | exact tG49 | exact tG50 | exact tG51 | exact tG58 | exact tG59 | exact tG65 | exact tG66 | exact tG69 | exact tG70 | exact tG72 | exact tG74 | exact tG75 | exact tG79 | exact tG80 | exact tG87 | exact tG90 | exact tG95 | exact tG96 | exact tG100 | exact tG103 | exact tG111 | exact tG117 | exact tG121 | exact tG128 | exact tG134 | exact tG142 | exact tG145 | exact tG148) (by first | exact kd9) rfl rfl rfl (by assumption) rfl ?_; simp only [go_sem, reduceCtorEq, hw]) | (refine AX.mapUpdate rfl rfl (by first | exact tM65 | exact tM66) (by first | exact kd9) rfl rfl rfl (by assumption) rfl (by simp only [go_sem, reduceCtorEq, hw]) ?_; simp only [go_sem, reduceCtorEq, hw]) | (refine AX.makeMap rfl (by first | exact tM65 | exact tM66) rfl ?_; simp only [go_sem, reduceCtorEq, hw]) | (refine AX.lenMap rfl (by first | exact tM65 | exact tM66) rfl rfl rfl ?_; simp only [go_sem, reduceCtorEq, hw]) | (refine AX.range rfl (by first | exact tM65 | exact tM66) rfl rfl rfl ?_; simp only [go_sem, reduceCtorEq, hw]) | (refine AX.appendStr rfl (by first | exact tL22 | exact tL23 | exact tL25 | exact tL34 | exact tL36 | exact tL50 | exact tL100) (by simp only [go_sem]) (by simp only [go_sem]) (by simp only [go_sem]) rfl rfl rfl rfl (by simp only [go_sem, reduceCtorEq, hw]; first | omega | (simp; omega)) ?_; simp only [go_sem, reduceCtorEq, hw]) | (refine AX.shr rfl rfl rfl rfl (by first | decide | omega) ?_; simp only [go_sem, reduceCtorEq, hw]) | (refine AX.shl rfl rfl rfl rfl (by first | decide | omega) ?_; simp only [go_sem, reduceCtorEq, hw]) | (refine AX.bits rfl rfl rfl (by assumption) rfl ?_; simp only [go_sem, reduceCtorEq, hw]) | (refine AX.nilSl rfl (by first | exact tL22 | exact tL23 | exact tL25 | exact tL34 | exact tL36 | exact tL50 | exact tL100) (by first | exact .inl rfl | exact .inr rfl) rfl rfl rfl ?_; simp only [go_sem, reduceCtorEq, hw]))
        | ((show indepK _ _ _ _ = true ∧ _); refine And.intro (by kernel_rfl) ?_)
        | ((show _ ∧ _); refine And.intro (by first | omega | assumption | (simp only [go_sem]; omega) | (simp; omega) | (simp; done)) ?_)
        | (refine hK _ ?_; clear hK K)
        | (clear hK K; refine hK _ ?_; clear hK K)
        | (clear hK K; clear hK K; refine hK _ ?_; clear hK K)
        | (clear hK K; clear hK K; clear hK K; refine hK _ ?_; clear hK K)
        | fail)
      refine hKL.to (j + 1) (by omega) (by omega) (Fits.fit [(0, 0)] [0, 3, 8, 43, 44, 45] 1 rfl rfl ?_)
      simp only [go_sem, take_at hx, addsS_app, addsS, rnEs_dE]
      exact Fits.rfl
    · have e1 : decide ((j : Int) < ks.length) = false := by simp; omega
      obtain rfl : j = ks.length := by omega
      clear hKL
      repeat' (first
        | ((show W _ _ _ _); first | (refine W.seq fun K hK => ?_) | refine W.block ?_ | (refine W.reg rfl ?_; simp only [go_sem, reduceCtorEq, e1]) | (refine W.regD Try_mo rfl rfl ?_; simp only [go_sem, reduceCtorEq, e1]) | (refine W.skip ?_; simp only [go_sem]) | (refine W.exit ?_; simp only [go_sem]) | (refine W.ret (Post.ret ?_); simp only [go_sem, reduceCtorEq, e1]) | refine W.condT rfl ?_ | refine W.condF rfl ?_ | refine W.cond rfl (fun h => ?_) (fun h => ?_))
        | ((show AX _ _ _ _ _); first | (refine AX.pcall rfl rfl (by simp only [go_sem, unim_im]; rfl) (by solve_by_elim) rfl rfl ?_; simp only [go_sem, reduceCtorEq, e1]) | (refine AX.pcallF rfl rfl (by simp only [go_sem, unim_im]; rfl) (by simp only [go_sem, unim_im]; rfl) (by solve_by_elim) rfl rfl ?_; simp only [go_sem, reduceCtorEq, e1]) | (refine AX.lookup rfl (by first | exact tM65 | exact tM66) (by first | exact tG2 | exact tG3 | exact tG4 | exact tG5 | exact tG7 | exact tG9 | exact tG12 | exact tG13 | exact tG18 | exact tG19 | exact tG20 | exact tG21 | exact tG22 | exact tG23 | exact tG25 | exact tG26 | exact tG27 | exact tG34 | exact tG36 | exact tG37 | exact tG38 | exact tG46 | exact tG49 | exact tG50 | exact tG51 | exact tG58 | exact tG59 | exact tG65 | exact tG66 | exact tG69 | exact tG70 | exact tG72 | exact tG74 | exact tG75 | exact tG79 | exact tG80 | exact tG87 | exact tG90 | exact tG95 | exact tG96 | exact tG100 | exact tG103 | exact tG111 | exact tG117 | exact tG121 | exact tG128 | exact tG134 | exact tG142 | exact tG145 | exact tG148) (by first | exact kd9) rfl rfl rfl (by assumption) rfl ?_; simp only [go_sem, reduceCtorEq, e1]) | (refine AX.mapUpdate rfl rfl (by first | exact tM65 | exact tM66) (by first | exact kd9) rfl rfl rfl (by assumption) rfl (by simp only [go_sem, reduceCtorEq, e1]) ?_; simp only [go_sem, reduceCtorEq, e1]) | (refine AX.makeMap rfl (by first | exact tM65 | exact tM66) rfl ?_; simp only [go_sem, reduceCtorEq, e1]) | (refine AX.lenMap rfl (by first | exact tM65 | exact tM66) rfl rfl rfl ?_; simp only [go_sem, reduceCtorEq, e1]) | (refine AX.range rfl (by first | exact tM65 | exact tM66) rfl rfl rfl ?_; simp only [go_sem, reduceCtorEq, e1]) | (refine AX.appendStr rfl (by first | exact tL22 | exact tL23 | exact tL25 | exact tL34 | exact tL36 | exact tL50 | exact tL100) (by simp only [go_sem]) (by simp only [go_sem]) (by simp only [go_sem]) rfl rfl rfl rfl (by simp only [go_sem, reduceCtorEq, e1]; first | omega | (simp; omega)) ?_; simp only [go_sem, reduceCtorEq, e1]) | (refine AX.shr rfl rfl rfl rfl (by first | decide | omega) ?_; simp only [go_sem, reduceCtorEq, e1]) | (refine AX.shl rfl rfl rfl rfl (by first | decide | omega) ?_; simp only [go_sem, reduceCtorEq, e1]) | (refine AX.bits rfl rfl rfl (by assumption) rfl ?_; simp only [go_sem, reduceCtorEq, e1]) | (refine AX.nilSl rfl (by first | exact tL22 | exact tL23 | exact tL25 | exact tL34 | exact tL36 | exact tL50 | exact tL100) (by first | exact .inl rfl | exact .inr rfl) rfl rfl rfl ?_; simp only [go_sem, reduceCtorEq, e1]))
        | ((show indepK _ _ _ _ = true ∧ _); refine And.intro (by kernel_rfl) ?_)
        | ((show _ ∧ _); refine And.intro (by first | omega | assumption | (simp only [go_sem]; omega) | (simp; omega) | (simp; done)) ?_)
        | (refine hK _ ?_; clear hK K)
        | (clear hK K; refine hK _ ?_; clear hK K)
        | (clear hK K; clear hK K; refine hK _ ?_; clear hK K)
        | (clear hK K; clear hK K; clear hK K; refine hK _ ?_; clear hK K)
        | fail)
      refine PostG.normal (Fits.fit [(0, 0)] [] 1 rfl rfl Fits.rfl) rfl rfl ?_
      simp only [St.r, go_sem, List.take_length, rnEs_dE, hS]
  · have hno : ∀ d ∈ ds, pathB d.1 ≠ pathB p := fun d hd e => hex ⟨d, hd, e⟩
    have hget0 : mget (Value.string ⟨(pathB p).toArray⟩) (dE ds) = none := mget_dE_none hno
    have hne : ∀ e ∈ dE ds, e.1 ≠ Value.string ⟨(pathB p).toArray⟩ := fun e he => by
      obtain ⟨d, hd, rfl⟩ := List.mem_map.1 he
      exact fun e => hno d hd (pkey_inj.1 e)
    have hput : ∀ y, mput (Value.string ⟨(pathB p).toArray⟩) y (dE ds) = dE ds ++ [(Value.string ⟨(pathB p).toArray⟩, y)] := fun y => mput_none hne
    have hget1 : ∀ y, mget (Value.string ⟨(pathB p).toArray⟩) (dE ds ++ [(Value.string ⟨(pathB p).toArray⟩, y)]) = some y := fun y => by
      have : ∀ l : List (Value × Bool × List Cell), (∀ e ∈ l, e.1 ≠ Value.string ⟨(pathB p).toArray⟩) → mget (Value.string ⟨(pathB p).toArray⟩) (l ++ [(Value.string ⟨(pathB p).toArray⟩, y)]) = some y := by
        intro l
        induction l with
        | nil => intro _; simp [mget]
        | cons e l ih => intro h; simp only [List.cons_append, mget]; rw [if_neg (h e (by simp)), ih fun x hx => h x (by simp [hx])]
      exact this _ hne
    have hadd : addD p (by_) ds = ds ++ [(p, by_)] := addD_none hno
    have hset : setE (dE ds ++ [(Value.string ⟨(pathB p).toArray⟩, (false, [Cell.ptr 10 0]))]) ds.length (.obox 38 (dlA (p, IntKind.i64.wrap (0 + by_)))) = dE (addD p by_ ds) := by
      rw [hadd, hby]
      have : ∀ (l : List Dl), setE (dE l ++ [(Value.string ⟨(pathB p).toArray⟩, (false, [Cell.ptr 10 0]))]) l.length (.obox 38 (dlA (p, by_))) = dE (l ++ [(p, by_)]) := by
        intro l
        induction l with
        | nil => rfl
        | cons d l ih => simp only [dE, List.map_cons, List.cons_append, List.length_cons, setE] at ih ⊢; rw [ih]
      exact this ds
    repeat' (first
      | ((show W _ _ _ _); first | refine W.stop (id := 6) ?_ | (refine W.seq fun K hK => ?_) | refine W.block ?_ | (refine W.reg rfl ?_; simp only [go_sem, reduceCtorEq, hget0, hput, hget1]) | (refine W.regD Try_mo rfl rfl ?_; simp only [go_sem, reduceCtorEq, hget0, hput, hget1]) | (refine W.skip ?_; simp only [go_sem]) | (refine W.exit ?_; simp only [go_sem]) | (refine W.ret (Post.ret ?_); simp only [go_sem, reduceCtorEq, hget0, hput, hget1]) | refine W.condT rfl ?_ | refine W.condF rfl ?_ | refine W.cond rfl (fun h => ?_) (fun h => ?_))
      | ((show AX _ _ _ _ _); first | (refine AX.pcall rfl rfl (by simp only [go_sem, unim_im]; rfl) (by solve_by_elim) rfl rfl ?_; simp only [go_sem, reduceCtorEq, hget0, hput, hget1]) | (refine AX.pcallF rfl rfl (by simp only [go_sem, unim_im]; rfl) (by simp only [go_sem, unim_im]; rfl) (by solve_by_elim) rfl rfl ?_; simp only [go_sem, reduceCtorEq, hget0, hput, hget1]) | (refine AX.lookup rfl (by first | exact tM65 | exact tM66) (by first | exact tG2 | exact tG3 | exact tG4 | exact tG5 | exact tG7 | exact tG9 | exact tG12 | exact tG13 | exact tG18 | exact tG19 | exact tG20 | exact tG21 | exact tG22 | exact tG23 | exact tG25 | exact tG26 | exact tG27 | exact tG34 | exact tG36 | exact tG37 | exact tG38 | exact tG46 | exact tG49 | exact tG50 | exact tG51 | exact tG58 | exact tG59 | exact tG65 | exact tG66 | exact tG69 | exact tG70 | exact tG72 | exact tG74 | exact tG75 | exact tG79 | exact tG80 | exact tG87 | exact tG90 | exact tG95 | exact tG96 | exact tG100 | exact tG103 | exact tG111 | exact tG117 | exact tG121 | exact tG128 | exact tG134 | exact tG142 | exact tG145 | exact tG148) (by first | exact kd9) rfl rfl rfl (by assumption) rfl ?_; simp only [go_sem, reduceCtorEq, hget0, hput, hget1]) | (refine AX.mapUpdate rfl rfl (by first | exact tM65 | exact tM66) (by first | exact kd9) rfl rfl rfl (by assumption) rfl (by simp only [go_sem, reduceCtorEq, hget0, hput, hget1]) ?_; simp only [go_sem, reduceCtorEq, hget0, hput, hget1]) | (refine AX.makeMap rfl (by first | exact tM65 | exact tM66) rfl ?_; simp only [go_sem, reduceCtorEq, hget0, hput, hget1]) | (refine AX.lenMap rfl (by first | exact tM65 | exact tM66) rfl rfl rfl ?_; simp only [go_sem, reduceCtorEq, hget0, hput, hget1]) | (refine AX.range rfl (by first | exact tM65 | exact tM66) rfl rfl rfl ?_; simp only [go_sem, reduceCtorEq, hget0, hput, hget1]) | (refine AX.appendStr rfl (by first | exact tL22 | exact tL23 | exact tL25 | exact tL34 | exact tL36 | exact tL50 | exact tL100) (by simp only [go_sem]) (by simp only [go_sem]) (by simp only [go_sem]) rfl rfl rfl rfl (by simp only [go_sem, reduceCtorEq, hget0, hput, hget1]; first | omega | (simp; omega)) ?_; simp only [go_sem, reduceCtorEq, hget0, hput, hget1]) | (refine AX.shr rfl rfl rfl rfl (by first | decide | omega) ?_; simp only [go_sem, reduceCtorEq, hget0, hput, hget1]) | (refine AX.shl rfl rfl rfl rfl (by first | decide | omega) ?_; simp only [go_sem, reduceCtorEq, hget0, hput, hget1]) | (refine AX.bits rfl rfl rfl (by assumption) rfl ?_; simp only [go_sem, reduceCtorEq, hget0, hput, hget1]) | (refine AX.nilSl rfl (by first | exact tL22 | exact tL23 | exact tL25 | exact tL34 | exact tL36 | exact tL50 | exact tL100) (by first | exact .inl rfl | exact .inr rfl) rfl rfl rfl ?_; simp only [go_sem, reduceCtorEq, hget0, hput, hget1]))
      | ((show indepK _ _ _ _ = true ∧ _); refine And.intro (by kernel_rfl) ?_)
      | ((show _ ∧ _); refine And.intro (by first | omega | assumption | (simp only [go_sem]; omega) | (simp; omega) | (simp; done)) ?_)
      | (refine hK _ ?_; clear hK K)
      | (clear hK K; refine hK _ ?_; clear hK K)
      | (clear hK K; clear hK K; refine hK _ ?_; clear hK K)
      | (clear hK K; clear hK K; clear hK K; refine hK _ ?_; clear hK K)
      | fail)
    refine Stop.out ?_
    refine W.fits (s' := { t := [(0, .c (.mp 0)), (3, ft (.int .i64 by_)), (5, .c (.ptr 1 0)), (8, .c (.im (.sl 59 (p.map nmA))))], h := [(0, .map 9 (dE (addD p by_ ds))), (1, .box 27 [fl (.string s), fl (.string o), .im (.sl 27 (avs ks))])], nx := 2, ex := [], nt := 55 }) ?_ ?_
    · refine Fits.fold 0 ds.length 0 10 (.obox 38 (dlA (p, IntKind.i64.wrap (0 + by_)))) rfl rfl rfl (by simp [Obj.slot, dE, refCell]) (by decide) ?_
      simp only [go_sem, hset]
      refine Fits.fit [(0, 0), (1, 1)] [0, 3, 5, 8] 2 rfl rfl ?_
      simp only [go_sem, rnEs_dE]
      exact Fits.rfl
    repeat' (first
      | ((show W _ _ _ _); first | (refine W.seq fun K hK => ?_) | refine W.block ?_ | (refine W.reg rfl ?_; simp only [go_sem, reduceCtorEq, avs_len]) | (refine W.regD Try_mo rfl rfl ?_; simp only [go_sem, reduceCtorEq, avs_len]) | (refine W.skip ?_; simp only [go_sem]) | (refine W.exit ?_; simp only [go_sem]) | (refine W.ret (Post.ret ?_); simp only [go_sem, reduceCtorEq, avs_len]) | refine W.condT rfl ?_ | refine W.condF rfl ?_ | refine W.cond rfl (fun h => ?_) (fun h => ?_))
      | ((show AX _ _ _ _ _); first | (refine AX.pcall rfl rfl (by simp only [go_sem, unim_im]; rfl) (by solve_by_elim) rfl rfl ?_; simp only [go_sem, reduceCtorEq, avs_len]) | (refine AX.pcallF rfl rfl (by simp only [go_sem, unim_im]; rfl) (by simp only [go_sem, unim_im]; rfl) (by solve_by_elim) rfl rfl ?_; simp only [go_sem, reduceCtorEq, avs_len]) | (refine AX.lookup rfl (by first | exact tM65 | exact tM66) (by first | exact tG2 | exact tG3 | exact tG4 | exact tG5 | exact tG7 | exact tG9 | exact tG12 | exact tG13 | exact tG18 | exact tG19 | exact tG20 | exact tG21 | exact tG22 | exact tG23 | exact tG25 | exact tG26 | exact tG27 | exact tG34 | exact tG36 | exact tG37 | exact tG38 | exact tG46 | exact tG49 | exact tG50 | exact tG51 | exact tG58 | exact tG59 | exact tG65 | exact tG66 | exact tG69 | exact tG70 | exact tG72 | exact tG74 | exact tG75 | exact tG79 | exact tG80 | exact tG87 | exact tG90 | exact tG95 | exact tG96 | exact tG100 | exact tG103 | exact tG111 | exact tG117 | exact tG121 | exact tG128 | exact tG134 | exact tG142 | exact tG145 | exact tG148) (by first | exact kd9) rfl rfl rfl (by assumption) rfl ?_; simp only [go_sem, reduceCtorEq, avs_len]) | (refine AX.mapUpdate rfl rfl (by first | exact tM65 | exact tM66) (by first | exact kd9) rfl rfl rfl (by assumption) rfl (by simp only [go_sem, reduceCtorEq, avs_len]) ?_; simp only [go_sem, reduceCtorEq, avs_len]) | (refine AX.makeMap rfl (by first | exact tM65 | exact tM66) rfl ?_; simp only [go_sem, reduceCtorEq, avs_len]) | (refine AX.lenMap rfl (by first | exact tM65 | exact tM66) rfl rfl rfl ?_; simp only [go_sem, reduceCtorEq, avs_len]) | (refine AX.range rfl (by first | exact tM65 | exact tM66) rfl rfl rfl ?_; simp only [go_sem, reduceCtorEq, avs_len]) | (refine AX.appendStr rfl (by first | exact tL22 | exact tL23 | exact tL25 | exact tL34 | exact tL36 | exact tL50 | exact tL100) (by simp only [go_sem]) (by simp only [go_sem]) (by simp only [go_sem]) rfl rfl rfl rfl (by simp only [go_sem, reduceCtorEq, avs_len]; first | omega | (simp; omega)) ?_; simp only [go_sem, reduceCtorEq, avs_len]) | (refine AX.shr rfl rfl rfl rfl (by first | decide | omega) ?_; simp only [go_sem, reduceCtorEq, avs_len]) | (refine AX.shl rfl rfl rfl rfl (by first | decide | omega) ?_; simp only [go_sem, reduceCtorEq, avs_len]) | (refine AX.bits rfl rfl rfl (by assumption) rfl ?_; simp only [go_sem, reduceCtorEq, avs_len]) | (refine AX.nilSl rfl (by first | exact tL22 | exact tL23 | exact tL25 | exact tL34 | exact tL36 | exact tL50 | exact tL100) (by first | exact .inl rfl | exact .inr rfl) rfl rfl rfl ?_; simp only [go_sem, reduceCtorEq, avs_len]))
      | ((show indepK _ _ _ _ = true ∧ _); refine And.intro (by kernel_rfl) ?_)
      | ((show _ ∧ _); refine And.intro (by first | omega | assumption | (simp only [go_sem]; omega) | (simp; omega) | (simp; done)) ?_)
      | (refine hK _ ?_; clear hK K)
      | (clear hK K; refine hK _ ?_; clear hK K)
      | (clear hK K; clear hK K; refine hK _ ?_; clear hK K)
      | (clear hK K; clear hK K; clear hK K; refine hK _ ?_; clear hK K)
      | fail)
    refine W.loopF (T := fun j : Nat => { t := [(0, .c (.mp 0)), (3, ft (.int .i64 by_)), (8, .c (.im (.sl 59 (p.map nmA)))), (43, .c (.im (.sl 27 (avs ks)))), (44, ft (.int .i64 ks.length)), (45, ft (.int .i64 (j : Nat)))], h := [(0, .map 9 (dE (addsS by_ (ks.take j) p (addD p by_ ds))))], nx := 1, ex := [], nt := 55 })
      (Inv := fun i => i ≤ ks.length) (μ := fun i => ks.length - i) (x0 := 0) (Fits.fit [(0, 0)] [0, 3, 8, 43, 44, 45] 1 rfl rfl ?_) (Nat.zero_le _) ?_
    · simp only [go_sem, rnEs_dE, addsS]
      exact Fits.rfl
    intro j hi KL hKL
    by_cases hlt : j < ks.length
    · obtain ⟨⟨s', o', ks'⟩, hx, hm, hd⟩ := drop_at hlt
      have e1 : decide ((j : Int) < ks.length) = true := by simp; omega
      have hw := w64s j (by omega)
      have hc := ih _ hm p (addsS by_ (ks.take j) p (addD p by_ ds)) (addsS_keys by_ _ _ _ (addD_keys hn)) (hWx _ hm)
      simp only [shT_mk] at hc
      repeat' (first
        | ((show W _ _ _ _); first | (refine W.seq fun K hK => ?_) | refine W.block ?_ | (refine W.reg rfl ?_; simp only [go_sem, reduceCtorEq, e1, hw, avs_get, hx, Shp.av]) | (refine W.regD Try_mo rfl rfl ?_; simp only [go_sem, reduceCtorEq, e1, hw, avs_get, hx, Shp.av]) | (refine W.skip ?_; simp only [go_sem]) | (refine W.exit ?_; simp only [go_sem]) | (refine W.ret (Post.ret ?_); simp only [go_sem, reduceCtorEq, e1, hw, avs_get, hx, Shp.av]) | refine W.condT rfl ?_ | refine W.condF rfl ?_ | refine W.cond rfl (fun h => ?_) (fun h => ?_))
        | ((show AX _ _ _ _ _); first | (refine AX.pcall rfl rfl (by simp only [go_sem, unim_im]; rfl) (by solve_by_elim) rfl rfl ?_; simp only [go_sem, reduceCtorEq, e1, hw, avs_get, hx, Shp.av]) | (refine AX.pcallF rfl rfl (by simp only [go_sem, unim_im]; rfl) (by simp only [go_sem, unim_im]; rfl) (by solve_by_elim) rfl rfl ?_; simp only [go_sem, reduceCtorEq, e1, hw, avs_get, hx, Shp.av]) | (refine AX.lookup rfl (by first | exact tM65 | exact tM66) (by first | exact tG2 | exact tG3 | exact tG4 | exact tG5 | exact tG7 | exact tG9 | exact tG12 | exact tG13 | exact tG18 | exact tG19 | exact tG20 | exact tG21 | exact tG22 | exact tG23 | exact tG25 | exact tG26 | exact tG27 | exact tG34 | exact tG36 | exact tG37 | exact tG38 | exact tG46 | exact tG49 | exact tG50 | exact tG51 | exact tG58 | exact tG59 | exact tG65 | exact tG66 | exact tG69 | exact tG70 | exact tG72 | exact tG74 | exact tG75 | exact tG79 | exact tG80 | exact tG87 | exact tG90 | exact tG95 | exact tG96 | exact tG100 | exact tG103 | exact tG111 | exact tG117 | exact tG121 | exact tG128 | exact tG134 | exact tG142 | exact tG145 | exact tG148) (by first | exact kd9) rfl rfl rfl (by assumption) rfl ?_; simp only [go_sem, reduceCtorEq, e1, hw, avs_get, hx, Shp.av]) | (refine AX.mapUpdate rfl rfl (by first | exact tM65 | exact tM66) (by first | exact kd9) rfl rfl rfl (by assumption) rfl (by simp only [go_sem, reduceCtorEq, e1, hw, avs_get, hx, Shp.av]) ?_; simp only [go_sem, reduceCtorEq, e1, hw, avs_get, hx, Shp.av]) | (refine AX.makeMap rfl (by first | exact tM65 | exact tM66) rfl ?_; simp only [go_sem, reduceCtorEq, e1, hw, avs_get, hx, Shp.av]) | (refine AX.lenMap rfl (by first | exact tM65 | exact tM66) rfl rfl rfl ?_; simp only [go_sem, reduceCtorEq, e1, hw, avs_get, hx, Shp.av]) | (refine AX.range rfl (by first | exact tM65 | exact tM66) rfl rfl rfl ?_; simp only [go_sem, reduceCtorEq, e1, hw, avs_get, hx, Shp.av]) | (refine AX.appendStr rfl (by first | exact tL22 | exact tL23 | exact tL25 | exact tL34 | exact tL36 | exact tL50 | exact tL100) (by simp only [go_sem]) (by simp only [go_sem]) (by simp only [go_sem]) rfl rfl rfl rfl (by simp only [go_sem, reduceCtorEq, e1, hw, avs_get, hx, Shp.av]; first | omega | (simp; omega)) ?_; simp only [go_sem, reduceCtorEq, e1, hw, avs_get, hx, Shp.av]) | (refine AX.shr rfl rfl rfl rfl (by first | decide | omega) ?_; simp only [go_sem, reduceCtorEq, e1, hw, avs_get, hx, Shp.av]) | (refine AX.shl rfl rfl rfl rfl (by first | decide | omega) ?_; simp only [go_sem, reduceCtorEq, e1, hw, avs_get, hx, Shp.av]) | (refine AX.bits rfl rfl rfl (by assumption) rfl ?_; simp only [go_sem, reduceCtorEq, e1, hw, avs_get, hx, Shp.av]) | (refine AX.nilSl rfl (by first | exact tL22 | exact tL23 | exact tL25 | exact tL34 | exact tL36 | exact tL50 | exact tL100) (by first | exact .inl rfl | exact .inr rfl) rfl rfl rfl ?_; simp only [go_sem, reduceCtorEq, e1, hw, avs_get, hx, Shp.av]))
        | ((show indepK _ _ _ _ = true ∧ _); refine And.intro (by kernel_rfl) ?_)
        | ((show _ ∧ _); refine And.intro (by first | omega | assumption | (simp only [go_sem]; omega) | (simp; omega) | (simp; done)) ?_)
        | (refine hK _ ?_; clear hK K)
        | (clear hK K; refine hK _ ?_; clear hK K)
        | (clear hK K; clear hK K; refine hK _ ?_; clear hK K)
        | (clear hK K; clear hK K; clear hK K; refine hK _ ?_; clear hK K)
        | fail)
      refine AX.gcall [0] rfl rfl (hc) (by simp only [go_sem, reduceCtorEq, rnEs_dE]) (by simp only [go_sem, reduceCtorEq, rnEs_dE]) rfl rfl (by simp only [go_sem, Obj.owns]) rfl (by simp only [go_sem, Obj.owns]) rfl rfl ?_
      simp only [go_sem, reduceCtorEq, rnEs_dE]
      repeat' (first
        | ((show W _ _ _ _); first | (refine W.seq fun K hK => ?_) | refine W.block ?_ | (refine W.reg rfl ?_; simp only [go_sem, reduceCtorEq, hw]) | (refine W.regD Try_mo rfl rfl ?_; simp only [go_sem, reduceCtorEq, hw]) | (refine W.skip ?_; simp only [go_sem]) | (refine W.exit ?_; simp only [go_sem]) | (refine W.ret (Post.ret ?_); simp only [go_sem, reduceCtorEq, hw]) | refine W.condT rfl ?_ | refine W.condF rfl ?_ | refine W.cond rfl (fun h => ?_) (fun h => ?_))
        | ((show AX _ _ _ _ _); first | (refine AX.pcall rfl rfl (by simp only [go_sem, unim_im]; rfl) (by solve_by_elim) rfl rfl ?_; simp only [go_sem, reduceCtorEq, hw]) | (refine AX.pcallF rfl rfl (by simp only [go_sem, unim_im]; rfl) (by simp only [go_sem, unim_im]; rfl) (by solve_by_elim) rfl rfl ?_; simp only [go_sem, reduceCtorEq, hw]) | (refine AX.lookup rfl (by first | exact tM65 | exact tM66) (by first | exact tG2 | exact tG3 | exact tG4 | exact tG5 | exact tG7 | exact tG9 | exact tG12 | exact tG13 | exact tG18 | exact tG19 | exact tG20 | exact tG21 | exact tG22 | exact tG23 | exact tG25 | exact tG26 | exact tG27 | exact tG34 | exact tG36 | exact tG37 | exact tG38 | exact tG46 | exact tG49 | exact tG50 | exact tG51 | exact tG58 | exact tG59 | exact tG65 | exact tG66 | exact tG69 | exact tG70 | exact tG72 | exact tG74 | exact tG75 | exact tG79 | exact tG80 | exact tG87 | exact tG90 | exact tG95 | exact tG96 | exact tG100 | exact tG103 | exact tG111 | exact tG117 | exact tG121 | exact tG128 | exact tG134 | exact tG142 | exact tG145 | exact tG148) (by first | exact kd9) rfl rfl rfl (by assumption) rfl ?_; simp only [go_sem, reduceCtorEq, hw]) | (refine AX.mapUpdate rfl rfl (by first | exact tM65 | exact tM66) (by first | exact kd9) rfl rfl rfl (by assumption) rfl (by simp only [go_sem, reduceCtorEq, hw]) ?_; simp only [go_sem, reduceCtorEq, hw]) | (refine AX.makeMap rfl (by first | exact tM65 | exact tM66) rfl ?_; simp only [go_sem, reduceCtorEq, hw]) | (refine AX.lenMap rfl (by first | exact tM65 | exact tM66) rfl rfl rfl ?_; simp only [go_sem, reduceCtorEq, hw]) | (refine AX.range rfl (by first | exact tM65 | exact tM66) rfl rfl rfl ?_; simp only [go_sem, reduceCtorEq, hw]) | (refine AX.appendStr rfl (by first | exact tL22 | exact tL23 | exact tL25 | exact tL34 | exact tL36 | exact tL50 | exact tL100) (by simp only [go_sem]) (by simp only [go_sem]) (by simp only [go_sem]) rfl rfl rfl rfl (by simp only [go_sem, reduceCtorEq, hw]; first | omega | (simp; omega)) ?_; simp only [go_sem, reduceCtorEq, hw]) | (refine AX.shr rfl rfl rfl rfl (by first | decide | omega) ?_; simp only [go_sem, reduceCtorEq, hw]) | (refine AX.shl rfl rfl rfl rfl (by first | decide | omega) ?_; simp only [go_sem, reduceCtorEq, hw]) | (refine AX.bits rfl rfl rfl (by assumption) rfl ?_; simp only [go_sem, reduceCtorEq, hw]) | (refine AX.nilSl rfl (by first | exact tL22 | exact tL23 | exact tL25 | exact tL34 | exact tL36 | exact tL50 | exact tL100) (by first | exact .inl rfl | exact .inr rfl) rfl rfl rfl ?_; simp only [go_sem, reduceCtorEq, hw]))
        | ((show indepK _ _ _ _ = true ∧ _); refine And.intro (by kernel_rfl) ?_)
        | ((show _ ∧ _); refine And.intro (by first | omega | assumption | (simp only [go_sem]; omega) | (simp; omega) | (simp; done)) ?_)
        | (refine hK _ ?_; clear hK K)
        | (clear hK K; refine hK _ ?_; clear hK K)
        | (clear hK K; clear hK K; refine hK _ ?_; clear hK K)
        | (clear hK K; clear hK K; clear hK K; refine hK _ ?_; clear hK K)
        | fail)
      refine hKL.to (j + 1) (by omega) (by omega) (Fits.fit [(0, 0)] [0, 3, 8, 43, 44, 45] 1 rfl rfl ?_)
      simp only [go_sem, take_at hx, addsS_app, addsS, rnEs_dE]
      exact Fits.rfl
    · have e1 : decide ((j : Int) < ks.length) = false := by simp; omega
      obtain rfl : j = ks.length := by omega
      clear hKL
      repeat' (first
        | ((show W _ _ _ _); first | (refine W.seq fun K hK => ?_) | refine W.block ?_ | (refine W.reg rfl ?_; simp only [go_sem, reduceCtorEq, e1]) | (refine W.regD Try_mo rfl rfl ?_; simp only [go_sem, reduceCtorEq, e1]) | (refine W.skip ?_; simp only [go_sem]) | (refine W.exit ?_; simp only [go_sem]) | (refine W.ret (Post.ret ?_); simp only [go_sem, reduceCtorEq, e1]) | refine W.condT rfl ?_ | refine W.condF rfl ?_ | refine W.cond rfl (fun h => ?_) (fun h => ?_))
        | ((show AX _ _ _ _ _); first | (refine AX.pcall rfl rfl (by simp only [go_sem, unim_im]; rfl) (by solve_by_elim) rfl rfl ?_; simp only [go_sem, reduceCtorEq, e1]) | (refine AX.pcallF rfl rfl (by simp only [go_sem, unim_im]; rfl) (by simp only [go_sem, unim_im]; rfl) (by solve_by_elim) rfl rfl ?_; simp only [go_sem, reduceCtorEq, e1]) | (refine AX.lookup rfl (by first | exact tM65 | exact tM66) (by first | exact tG2 | exact tG3 | exact tG4 | exact tG5 | exact tG7 | exact tG9 | exact tG12 | exact tG13 | exact tG18 | exact tG19 | exact tG20 | exact tG21 | exact tG22 | exact tG23 | exact tG25 | exact tG26 | exact tG27 | exact tG34 | exact tG36 | exact tG37 | exact tG38 | exact tG46 | exact tG49 | exact tG50 | exact tG51 | exact tG58 | exact tG59 | exact tG65 | exact tG66 | exact tG69 | exact tG70 | exact tG72 | exact tG74 | exact tG75 | exact tG79 | exact tG80 | exact tG87 | exact tG90 | exact tG95 | exact tG96 | exact tG100 | exact tG103 | exact tG111 | exact tG117 | exact tG121 | exact tG128 | exact tG134 | exact tG142 | exact tG145 | exact tG148) (by first | exact kd9) rfl rfl rfl (by assumption) rfl ?_; simp only [go_sem, reduceCtorEq, e1]) | (refine AX.mapUpdate rfl rfl (by first | exact tM65 | exact tM66) (by first | exact kd9) rfl rfl rfl (by assumption) rfl (by simp only [go_sem, reduceCtorEq, e1]) ?_; simp only [go_sem, reduceCtorEq, e1]) | (refine AX.makeMap rfl (by first | exact tM65 | exact tM66) rfl ?_; simp only [go_sem, reduceCtorEq, e1]) | (refine AX.lenMap rfl (by first | exact tM65 | exact tM66) rfl rfl rfl ?_; simp only [go_sem, reduceCtorEq, e1]) | (refine AX.range rfl (by first | exact tM65 | exact tM66) rfl rfl rfl ?_; simp only [go_sem, reduceCtorEq, e1]) | (refine AX.appendStr rfl (by first | exact tL22 | exact tL23 | exact tL25 | exact tL34 | exact tL36 | exact tL50 | exact tL100) (by simp only [go_sem]) (by simp only [go_sem]) (by simp only [go_sem]) rfl rfl rfl rfl (by simp only [go_sem, reduceCtorEq, e1]; first | omega | (simp; omega)) ?_; simp only [go_sem, reduceCtorEq, e1]) | (refine AX.shr rfl rfl rfl rfl (by first | decide | omega) ?_; simp only [go_sem, reduceCtorEq, e1]) | (refine AX.shl rfl rfl rfl rfl (by first | decide | omega) ?_; simp only [go_sem, reduceCtorEq, e1]) | (refine AX.bits rfl rfl rfl (by assumption) rfl ?_; simp only [go_sem, reduceCtorEq, e1]) | (refine AX.nilSl rfl (by first | exact tL22 | exact tL23 | exact tL25 | exact tL34 | exact tL36 | exact tL50 | exact tL100) (by first | exact .inl rfl | exact .inr rfl) rfl rfl rfl ?_; simp only [go_sem, reduceCtorEq, e1]))
        | ((show indepK _ _ _ _ = true ∧ _); refine And.intro (by kernel_rfl) ?_)
        | ((show _ ∧ _); refine And.intro (by first | omega | assumption | (simp only [go_sem]; omega) | (simp; omega) | (simp; done)) ?_)
        | (refine hK _ ?_; clear hK K)
        | (clear hK K; refine hK _ ?_; clear hK K)
        | (clear hK K; clear hK K; refine hK _ ?_; clear hK K)
        | (clear hK K; clear hK K; clear hK K; refine hK _ ?_; clear hK K)
        | fail)
      refine PostG.normal (Fits.fit [(0, 0)] [] 1 rfl rfl Fits.rfl) rfl rfl ?_
      simp only [St.r, go_sem, List.take_length, rnEs_dE, hS]
theorem add_all (by_ : Int) (hby : IntKind.i64.wrap (0 + by_) = by_) : ∀ x : Shp, AddC by_ x
  | .mk s o ks => add_c by_ hby s o ks fun x hx => add_all by_ hby x
termination_by x => SizeOf.sizeOf x
decreasing_by
  have := List.sizeOf_lt_of_mem hx
  simp only [Shp.mk.sizeOf_spec]
  omega
end Go.Proofs.Ytegcmciglakicaa
