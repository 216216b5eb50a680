import Derived.Test.YtegcmciglakicaaGreatM3
import Derived.Test.YtegcmciglakicaaGreatM4
import Derived.Sort.Walk0
import Derived.Shelf.SlSortCmp.WholeK
import Derived.Shelf.SlSortCmp.NoneTotal
import Derived.Test.YtegcmciglakicaaGreatProg
import Derived.Shelf.SlLaysF0
import Derived.Shelf.SlGeneric
import Derived.Ground.SlsfProg
import Derived.Shelf.Spec.SlicesGrow
import Derived.Ground.Names8Prog
import Derived.Shelf.SortM.Plain
import Derived.Shelf.SortM.SortNone
import Derived.Ground.SlgmProg
namespace Go.Proofs.YtegcmciglakicaaGreat
open Go.RowKit Go.Exe
set_option linter.unusedVariables false
set_option linter.unusedSimpArgs false
set_option maxHeartbeats 1000000
set_option maxRecDepth 100000
attribute [local irreducible] W AX Run RunD AStep AOp AOpX AStB AStH AStG Fits PCall GCall PostG Post Stop

theorem u64_neg {n : Int} (h1 : -9223372036854775808 ≤ n) (h2 : n < 0) : IntKind.u64.wrap (0 - IntKind.u64.wrap n) = ((n.natAbs : Nat) : Int) := by
  rw [IntKind.wrap_u64, IntKind.wrap_u64]; omega
theorem u64_pos {n : Int} (h1 : 0 ≤ n) (h2 : n < 9223372036854775808) : IntKind.u64.wrap n = ((n.natAbs : Nat) : Int) := by
  rw [IntKind.wrap_u64]; omega
theorem magnitude_c (n : Int) (h1 : -9223372036854775808 ≤ n) (h2 : n < 9223372036854775808) : PCall Tryz.prog 143 [ft (.int .i64 n)] (ft (.int .u64 ((n.natAbs : Nat) : Int))) := by
  refine PCall.intro (nt := 10) (rs := [.tmp 2]) Tryz.func143 rfl ⟨by kernel_rfl, by kernel_rfl, by kernel_rfl⟩ (by simp) ?_
  rintro ⟨P, w0, ok0, may, np, pblk⟩ rfl rfl
  by_cases h : n < 0
  · have e1 : decide (n < 0) = true := by simp [h]
    have e2 := u64_neg h1 h
    repeat' (first | ((show W _ _ _ _); first | refine W.seq fun K hK => ?_ | refine W.block ?_ | ((first | refine wR ?_ | refine wD ?_ | refine W.skip ?_ | refine W.exit ?_ | refine W.ret (Post.ret ?_)); simp only [go_sem, reduceCtorEq, e1, e2]) | refine wT ?_ | refine wF ?_ | refine wC (fun h => ?_) (fun h => ?_)) | ((show AX _ _ _ _ _); (first | refine aP ?_ | refine aF ?_ | refine aL ?_ | refine aU (hnn := by simp only [go_sem, reduceCtorEq, e1, e2]) ?_ | refine aM ?_ | refine aN ?_ | refine aR ?_ | refine aS (hb := by simp only [go_sem, reduceCtorEq, e1, e2]; first | omega | (simp; omega)) ?_ | refine aH ?_ | refine aI ?_ | refine aB ?_ | refine aZ ?_); simp only [go_sem, reduceCtorEq, e1, e2]) | refine iK ?_ | refine aI2 ?_ | (refine hK _ ?_; clear hK K) | clear hK K)
  · have e1 : decide (n < 0) = false := by simp [h]
    have e2 := u64_pos (by omega) h2
    repeat' (first | ((show W _ _ _ _); first | refine W.seq fun K hK => ?_ | refine W.block ?_ | ((first | refine wR ?_ | refine wD ?_ | refine W.skip ?_ | refine W.exit ?_ | refine W.ret (Post.ret ?_)); simp only [go_sem, reduceCtorEq, e1, e2]) | refine wT ?_ | refine wF ?_ | refine wC (fun h => ?_) (fun h => ?_)) | ((show AX _ _ _ _ _); (first | refine aP ?_ | refine aF ?_ | refine aL ?_ | refine aU (hnn := by simp only [go_sem, reduceCtorEq, e1, e2]) ?_ | refine aM ?_ | refine aN ?_ | refine aR ?_ | refine aS (hb := by simp only [go_sem, reduceCtorEq, e1, e2]; first | omega | (simp; omega)) ?_ | refine aH ?_ | refine aI ?_ | refine aB ?_ | refine aZ ?_); simp only [go_sem, reduceCtorEq, e1, e2]) | refine iK ?_ | refine aI2 ?_ | (refine hK _ ?_; clear hK K) | clear hK K)

/-- How many bytes a magnitude has. -/
def nsize (m : Nat) : Nat := if m = 0 then 0 else 1 + nsize (m / 256)
decreasing_by omega
theorem nsize_0 : nsize 0 = 0 := by unfold nsize; rfl
theorem nsize_s {m : Nat} (h : 0 < m) : nsize m = 1 + nsize (m / 256) := by
  rw [nsize]; rw [if_neg (by omega)]
theorem nsize_le : ∀ (k m : Nat), m < 256 ^ k → nsize m ≤ k
  | 0, m, h => by simp at h; subst h; rw [nsize_0]; exact Nat.le_refl _
  | k + 1, m, h => by
    by_cases h0 : m = 0
    · subst h0; rw [nsize_0]; exact Nat.zero_le _
    · rw [nsize_s (by omega)]
      have := nsize_le k (m / 256) (by rw [Nat.pow_succ] at h; omega)
      omega
/-- A byte of a number's form. -/
def nbyte (m i : Nat) (neg : Bool) : Nat := if neg then 255 - m / 256 ^ i % 256 else m / 256 ^ i % 256
theorem nbyte_lt (m i : Nat) (neg : Bool) : nbyte m i neg < 256 := by unfold nbyte; split <;> omega
def nhead (m : Nat) (neg : Bool) : Nat := if neg then 128 - nsize m else 128 + nsize m
def numB (n : Int) : List UInt8 := UInt8.ofNat (nhead n.natAbs (decide (n < 0))) :: (List.range (nsize n.natAbs)).map fun j => UInt8.ofNat (nbyte n.natAbs (nsize n.natAbs - 1 - j) (decide (n < 0)))
theorem u8n {x : Nat} (h : x < 256) : (((UInt8.ofNat x).toNat : Nat) : Int) = (x : Int) := by
  rw [UInt8.toNat_ofNat_of_lt' (by simpa [UInt8.size] using h)]
theorem u8v {v : Int} {x : Nat} (h : x < 256) (e : v = (x : Int)) : v = (((UInt8.ofNat x).toNat : Nat) : Int) := by rw [u8n h, e]
theorem bsA_cons (b : UInt8) (l : List UInt8) : bsA (b :: l) = [.flat (.int .u8 (b.toNat : Int))] :: bsA l := rfl
theorem bsA_nil : bsA [] = [] := rfl
theorem imR_cons (x : List AV) (l : List (List AV)) : imR (x :: l) = imL x :: imR l := rfl
theorem imR_nil : imR [] = [] := rfl
theorem bsA_one (b : UInt8) : bsA [b] = [[.flat (.int .u8 (b.toNat : Int))]] := rfl
theorem shr8 (m i : Nat) (hi : i < 8) (hm : m < 18446744073709551616) : Int.fdiv (m : Int) (2 ^ (min (8 * (i : Int)).toNat 64)) = ((m / 256 ^ i : Nat) : Int) := by
  have e1 : (8 * (i : Int)).toNat = 8 * i := by omega
  rw [e1, Nat.min_eq_left (by omega)]
  have e2 : (2 : Int) ^ (8 * i) = ((256 ^ i : Nat) : Int) := by
    rw [Int.pow_mul, Int.natCast_pow]; rfl
  rw [e2, Int.fdiv_eq_ediv_of_nonneg _ (Int.natCast_nonneg _)]
  rfl
theorem bits0 (x : Nat) (h : x < 256) : bitsV .xor .u8 (x : Int) 0 = some (x : Int) := by
  have : ∀ x : Fin 256, bitsV .xor .u8 ((x.1 : Nat) : Int) 0 = some ((x.1 : Nat) : Int) := by decide +kernel
  exact this ⟨x, h⟩
theorem bits255 (x : Nat) (h : x < 256) : bitsV .xor .u8 (x : Int) 255 = some ((255 - x : Nat) : Int) := by
  have : ∀ x : Fin 256, bitsV .xor .u8 ((x.1 : Nat) : Int) 255 = some ((255 - x.1 : Nat) : Int) := by decide +kernel
  exact this ⟨x, h⟩
theorem number_c (l : List UInt8) (n : Int) (h1 : -9223372036854775808 ≤ n) (h2 : n < 9223372036854775808) (hl : l.length + 9 ≤ 140737488355328) :
    GCall Tryz.prog 116 1 (St.g [.c (.ptr 0 0), ft (.int .i64 n)] [(0, .box 157 [.ref 1]), (1, .row 5 (imR (bsA l)))] 2) (St.r (.t []) [(0, .box 157 [.ref 1]), (1, .row 5 (imR (bsA (l ++ numB n))))] 2) := by
  have c59 := magnitude_c n h1 h2
  generalize hm : n.natAbs = m at c59
  have hm64 : m < 18446744073709551616 := by omega
  have hsz : nsize m ≤ 8 := nsize_le 8 m (by omega)
  have hnum : numB n = UInt8.ofNat (nhead m (decide (n < 0))) :: (List.range (nsize m)).map fun j => UInt8.ofNat (nbyte m (nsize m - 1 - j) (decide (n < 0))) := by rw [numB, hm]
  rw [hnum]
  generalize hneg : decide (n < 0) = neg
  refine GCall.introG (nt := 68) (rs := []) Tryz.func116 rfl ⟨by kernel_rfl, by kernel_rfl, by kernel_rfl⟩ (by simp) ?_
  rintro ⟨P, w0, ok0, may, np, pblk⟩ rfl rfl
  simp only [go_sem]
  repeat' (first | ((show W _ _ _ _); first | refine W.seq fun K hK => ?_ | refine W.block ?_ | ((first | refine wR ?_ | refine wD ?_ | refine W.skip ?_ | refine W.exit ?_ | refine W.ret (Post.ret ?_)); simp only [go_sem, reduceCtorEq]) | refine wT ?_ | refine wF ?_ | refine wC (fun h => ?_) (fun h => ?_)) | ((show AX _ _ _ _ _); (first | refine aP ?_ | refine aF ?_ | refine aL ?_ | refine aU ?_ | refine aM ?_ | refine aN ?_ | refine aR ?_ | refine aS ?_ | refine aH ?_ | refine aI ?_ | refine aB ?_ | refine aZ ?_); simp only [go_sem, reduceCtorEq]) | refine iK ?_ | refine aI2 ?_ | (refine hK _ ?_; clear hK K) | clear hK K)
  -- how many bytes
  refine W.loopF (T := fun x : Nat × Nat => { t := [(0, .c (.ptr 0 0)), (1, ft (.int .i64 n)), (4, ft (.int .u64 (m : Int))), (5, ft (.int .i64 (x.1 : Int))), (6, ft (.int .u64 (x.2 : Int)))], h := [(0, .box 157 [.ref 1]), (1, .row 5 (imR (bsA l)))], nx := 2, ex := [], nt := 68 })
    (Inv := fun x => nsize m = x.1 + nsize x.2 ∧ x.2 < 18446744073709551616) (μ := fun x => x.2) (x0 := (0, m)) (Fits.fit [(0, 0), (1, 1)] [0, 1, 4, 5, 6] 2 rfl rfl ?_) ⟨by simp, hm64⟩ ?_
  · simp only [go_sem]
    exact Fits.rfl
  rintro ⟨i, x⟩ ⟨hi, hx⟩ KL hKL
  simp only at hi hx ⊢
  by_cases h0 : 0 < x
  · have e1 : decide ((x : Int) > 0) = true := by simp [h0]
    have e2 : IntKind.i64.wrap ((i : Int) + 1) = ((i + 1 : Nat) : Int) := w64s i (by omega)
    have e3 : Int.fdiv (x : Int) (2 ^ (min (Int.toNat 8) 64)) = ((x / 256 : Nat) : Int) := shr8 x 1 (by decide) hx
    have e4 := nsize_s h0
    repeat' (first | ((show W _ _ _ _); first | refine W.seq fun K hK => ?_ | refine W.block ?_ | ((first | refine wR ?_ | refine wD ?_ | refine W.skip ?_ | refine W.exit ?_ | refine W.ret (Post.ret ?_)); simp only [go_sem, reduceCtorEq, e1, e2, e3]) | refine wT ?_ | refine wF ?_ | refine wC (fun h => ?_) (fun h => ?_)) | ((show AX _ _ _ _ _); (first | refine aP ?_ | refine aF ?_ | refine aL ?_ | refine aU (hnn := by simp only [go_sem, reduceCtorEq, e1, e2, e3]) ?_ | refine aM ?_ | refine aN ?_ | refine aR ?_ | refine aS (hb := by simp only [go_sem, reduceCtorEq, e1, e2, e3]; first | omega | (simp; omega)) ?_ | refine aH ?_ | refine aI ?_ | refine aB ?_ | refine aZ ?_); simp only [go_sem, reduceCtorEq, e1, e2, e3]) | refine iK ?_ | refine aI2 ?_ | (refine hK _ ?_; clear hK K) | clear hK K)
    refine hKL.to (i + 1, x / 256) ⟨by simp only; omega, by simp only; omega⟩ (by simp only; omega) (Fits.fit [(0, 0), (1, 1)] [0, 1, 4, 5, 6] 2 rfl rfl ?_)
    simp only [go_sem]
    exact Fits.rfl
  have e1 : decide ((x : Int) > 0) = false := by simp; omega
  obtain rfl : x = 0 := by omega
  rw [nsize_0, Nat.add_zero] at hi
  clear hKL
  have hhead : nhead m neg < 256 := by unfold nhead; split <;> omega
  have hsub : IntKind.i64.wrap ((i : Int) - 1) = (i : Int) - 1 := w64 (by omega) (by omega)
  cases neg
  · have hcond : decide (n < 0) = false := hneg
    have ehd : IntKind.u8.wrap (IntKind.i64.wrap (128 + (i : Int))) = (((UInt8.ofNat (nhead m false)).toNat : Nat) : Int) := by
      rw [w64 (by omega) (by omega), u8n hhead, IntKind.wrap_u8]
      simp only [nhead, hi, if_true, Bool.false_eq_true, if_false]
      omega
    repeat' (first | ((show W _ _ _ _); first | refine W.seq fun K hK => ?_ | refine W.block ?_ | ((first | refine wR ?_ | refine wD ?_ | refine W.skip ?_ | refine W.exit ?_ | refine W.ret (Post.ret ?_)); simp only [go_sem, reduceCtorEq, hcond, hsub, ehd, bsA_len]) | refine wT ?_ | refine wF ?_ | refine wC (fun h => ?_) (fun h => ?_)) | ((show AX _ _ _ _ _); (first | refine aP ?_ | refine aF ?_ | refine aL ?_ | refine aU (hnn := by simp only [go_sem, reduceCtorEq, hcond, hsub, ehd, bsA_len]) ?_ | refine aM ?_ | refine aN ?_ | refine aR ?_ | refine aS (hb := by simp only [go_sem, reduceCtorEq, hcond, hsub, ehd, bsA_len]; first | omega | (simp; omega)) ?_ | refine aH ?_ | refine aI ?_ | refine aB ?_ | refine aZ ?_); simp only [go_sem, reduceCtorEq, hcond, hsub, ehd, bsA_len]) | refine iK ?_ | refine aI2 ?_ | (refine hK _ ?_; clear hK K) | clear hK K)
    refine W.loopF (T := fun j : Nat => { t := [(0, .c (.ptr 0 0)), (4, ft (.int .u64 (m : Int))), (7, ft (.int .u8 0)), (8, ft (.int .i64 ((i : Int) - 1 - j)))], h := [(0, .box 157 [.ref 1]), (1, .row 5 (imR (bsA (l ++ UInt8.ofNat (nhead m false) :: (List.range j).map fun j => UInt8.ofNat (nbyte m (i - 1 - j) false)))))], nx := 2, ex := [], nt := 68 })
      (Inv := fun j => j ≤ i) (μ := fun j => i - j) (x0 := 0) ?_ (Nat.zero_le _) ?_
    · refine Fits.fit [(0, 0), (16, 1)] [0, 4, 7, 8] 2 rfl rfl ?_
      simp only [go_sem, List.range_zero, List.map_nil, bsA_app, imR_app, bsA_cons, imR_cons, bsA_nil, imR_nil, imL, Int.sub_zero, Int.natCast_zero, Int.ofNat_zero, rnCss_app, rnCss_im, List.map_cons]
      exact Fits.rfl
    intro j hj KL hKL
    by_cases hlt : j < i
    · have f1 : decide ((i : Int) - 1 - j ≥ 0) = true := by simp; omega
      have f2 : IntKind.i64.wrap (8 * ((i : Int) - 1 - j)) = 8 * (((i - 1 - j : Nat)) : Int) := by rw [w64 (by omega) (by omega)]; omega
      have f3 := shr8 m (i - 1 - j) (by omega) hm64
      have f4 : IntKind.u8.wrap ((m / 256 ^ (i - 1 - j) : Nat) : Int) = ((m / 256 ^ (i - 1 - j) % 256 : Nat) : Int) := by rw [IntKind.wrap_u8]; omega
      have f5 : bitsV .xor .u8 ((m / 256 ^ (i - 1 - j) % 256 : Nat) : Int) 0 = some (((UInt8.ofNat (nbyte m (i - 1 - j) false)).toNat : Nat) : Int) := by
        rw [bits0 _ (by omega), u8n (nbyte_lt _ _ _)]; rfl
      have f6 : IntKind.i64.wrap ((i : Int) - 1 - j - 1) = (i : Int) - 1 - ((j + 1 : Nat) : Int) := by rw [w64 (by omega) (by omega)]; omega
      repeat' (first | ((show W _ _ _ _); first | refine W.seq fun K hK => ?_ | refine W.block ?_ | ((first | refine wR ?_ | refine wD ?_ | refine W.skip ?_ | refine W.exit ?_ | refine W.ret (Post.ret ?_)); simp only [go_sem, reduceCtorEq, f1, f2, f3, f4, f6, bsA_len, List.length_append]) | refine wT ?_ | refine wF ?_ | refine wC (fun h => ?_) (fun h => ?_)) | ((show AX _ _ _ _ _); (first | refine aP ?_ | refine aF ?_ | refine aL ?_ | refine aU (hnn := by simp only [go_sem, reduceCtorEq, f1, f2, f3, f4, f6, bsA_len, List.length_append]) ?_ | refine aM ?_ | refine aN ?_ | refine aR ?_ | refine aS (hb := by simp only [go_sem, reduceCtorEq, f1, f2, f3, f4, f6, bsA_len, List.length_append]; first | omega | (simp; omega)) ?_ | refine aH ?_ | refine aI ?_ | refine aB ?_ | refine aZ ?_); simp only [go_sem, reduceCtorEq, f1, f2, f3, f4, f6, bsA_len, List.length_append]) | refine iK ?_ | refine aI2 ?_ | (refine hK _ ?_; clear hK K) | clear hK K)
      refine hKL.to (j + 1) (by omega) (by omega) (Fits.fit [(0, 0), (17, 1)] [0, 4, 7, 8] 2 rfl rfl ?_)
      simp only [go_sem, List.range_succ, List.map_append, List.map_cons, List.map_nil, bsA_app, imR_app, bsA_cons, imR_cons, bsA_nil, imR_nil, imL, rnCss_app, rnCss_im, List.append_assoc, List.cons_append]
      exact Fits.rfl
    · have f1 : decide ((i : Int) - 1 - j ≥ 0) = false := by simp; omega
      obtain rfl : j = i := by omega
      clear hKL
      repeat' (first | ((show W _ _ _ _); first | refine W.seq fun K hK => ?_ | refine W.block ?_ | ((first | refine wR ?_ | refine wD ?_ | refine W.skip ?_ | refine W.exit ?_ | refine W.ret (Post.ret ?_)); simp only [go_sem, reduceCtorEq, f1]) | refine wT ?_ | refine wF ?_ | refine wC (fun h => ?_) (fun h => ?_)) | ((show AX _ _ _ _ _); (first | refine aP ?_ | refine aF ?_ | refine aL ?_ | refine aU (hnn := by simp only [go_sem, reduceCtorEq, f1]) ?_ | refine aM ?_ | refine aN ?_ | refine aR ?_ | refine aS (hb := by simp only [go_sem, reduceCtorEq, f1]; first | omega | (simp; omega)) ?_ | refine aH ?_ | refine aI ?_ | refine aB ?_ | refine aZ ?_); simp only [go_sem, reduceCtorEq, f1]) | refine iK ?_ | refine aI2 ?_ | (refine hK _ ?_; clear hK K) | clear hK K)
      refine PostG.normal (Fits.fit [(0, 0), (1, 1)] [] 2 rfl rfl Fits.rfl) rfl rfl ?_
      rw [hi]
      simp only [St.r, go_sem, rnCss_im]
  · have hcond : decide (n < 0) = true := hneg
    have ehd : IntKind.u8.wrap (IntKind.i64.wrap (128 - (i : Int))) = (((UInt8.ofNat (nhead m true)).toNat : Nat) : Int) := by
      rw [w64 (by omega) (by omega), u8n hhead, IntKind.wrap_u8]
      simp only [nhead, hi, if_true, Bool.false_eq_true, if_false]
      omega
    repeat' (first | ((show W _ _ _ _); first | refine W.seq fun K hK => ?_ | refine W.block ?_ | ((first | refine wR ?_ | refine wD ?_ | refine W.skip ?_ | refine W.exit ?_ | refine W.ret (Post.ret ?_)); simp only [go_sem, reduceCtorEq, hcond, hsub, ehd, bsA_len]) | refine wT ?_ | refine wF ?_ | refine wC (fun h => ?_) (fun h => ?_)) | ((show AX _ _ _ _ _); (first | refine aP ?_ | refine aF ?_ | refine aL ?_ | refine aU (hnn := by simp only [go_sem, reduceCtorEq, hcond, hsub, ehd, bsA_len]) ?_ | refine aM ?_ | refine aN ?_ | refine aR ?_ | refine aS (hb := by simp only [go_sem, reduceCtorEq, hcond, hsub, ehd, bsA_len]; first | omega | (simp; omega)) ?_ | refine aH ?_ | refine aI ?_ | refine aB ?_ | refine aZ ?_); simp only [go_sem, reduceCtorEq, hcond, hsub, ehd, bsA_len]) | refine iK ?_ | refine aI2 ?_ | (refine hK _ ?_; clear hK K) | clear hK K)
    refine W.loopF (T := fun j : Nat => { t := [(0, .c (.ptr 0 0)), (4, ft (.int .u64 (m : Int))), (7, ft (.int .u8 255)), (8, ft (.int .i64 ((i : Int) - 1 - j)))], h := [(0, .box 157 [.ref 1]), (1, .row 5 (imR (bsA (l ++ UInt8.ofNat (nhead m true) :: (List.range j).map fun j => UInt8.ofNat (nbyte m (i - 1 - j) true)))))], nx := 2, ex := [], nt := 68 })
      (Inv := fun j => j ≤ i) (μ := fun j => i - j) (x0 := 0) ?_ (Nat.zero_le _) ?_
    · refine Fits.fit [(0, 0), (17, 1)] [0, 4, 7, 8] 2 rfl rfl ?_
      simp only [go_sem, List.range_zero, List.map_nil, bsA_app, imR_app, bsA_cons, imR_cons, bsA_nil, imR_nil, imL, Int.sub_zero, Int.natCast_zero, Int.ofNat_zero, rnCss_app, rnCss_im, List.map_cons]
      exact Fits.rfl
    intro j hj KL hKL
    by_cases hlt : j < i
    · have f1 : decide ((i : Int) - 1 - j ≥ 0) = true := by simp; omega
      have f2 : IntKind.i64.wrap (8 * ((i : Int) - 1 - j)) = 8 * (((i - 1 - j : Nat)) : Int) := by rw [w64 (by omega) (by omega)]; omega
      have f3 := shr8 m (i - 1 - j) (by omega) hm64
      have f4 : IntKind.u8.wrap ((m / 256 ^ (i - 1 - j) : Nat) : Int) = ((m / 256 ^ (i - 1 - j) % 256 : Nat) : Int) := by rw [IntKind.wrap_u8]; omega
      have f5 : bitsV .xor .u8 ((m / 256 ^ (i - 1 - j) % 256 : Nat) : Int) 255 = some (((UInt8.ofNat (nbyte m (i - 1 - j) true)).toNat : Nat) : Int) := by
        rw [bits255 _ (by omega), u8n (nbyte_lt _ _ _)]; rfl
      have f6 : IntKind.i64.wrap ((i : Int) - 1 - j - 1) = (i : Int) - 1 - ((j + 1 : Nat) : Int) := by rw [w64 (by omega) (by omega)]; omega
      repeat' (first | ((show W _ _ _ _); first | refine W.seq fun K hK => ?_ | refine W.block ?_ | ((first | refine wR ?_ | refine wD ?_ | refine W.skip ?_ | refine W.exit ?_ | refine W.ret (Post.ret ?_)); simp only [go_sem, reduceCtorEq, f1, f2, f3, f4, f6, bsA_len, List.length_append]) | refine wT ?_ | refine wF ?_ | refine wC (fun h => ?_) (fun h => ?_)) | ((show AX _ _ _ _ _); (first | refine aP ?_ | refine aF ?_ | refine aL ?_ | refine aU (hnn := by simp only [go_sem, reduceCtorEq, f1, f2, f3, f4, f6, bsA_len, List.length_append]) ?_ | refine aM ?_ | refine aN ?_ | refine aR ?_ | refine aS (hb := by simp only [go_sem, reduceCtorEq, f1, f2, f3, f4, f6, bsA_len, List.length_append]; first | omega | (simp; omega)) ?_ | refine aH ?_ | refine aI ?_ | refine aB ?_ | refine aZ ?_); simp only [go_sem, reduceCtorEq, f1, f2, f3, f4, f6, bsA_len, List.length_append]) | refine iK ?_ | refine aI2 ?_ | (refine hK _ ?_; clear hK K) | clear hK K)
      refine hKL.to (j + 1) (by omega) (by omega) (Fits.fit [(0, 0), (17, 1)] [0, 4, 7, 8] 2 rfl rfl ?_)
      simp only [go_sem, List.range_succ, List.map_append, List.map_cons, List.map_nil, bsA_app, imR_app, bsA_cons, imR_cons, bsA_nil, imR_nil, imL, rnCss_app, rnCss_im, List.append_assoc, List.cons_append]
      exact Fits.rfl
    · have f1 : decide ((i : Int) - 1 - j ≥ 0) = false := by simp; omega
      obtain rfl : j = i := by omega
      clear hKL
      repeat' (first | ((show W _ _ _ _); first | refine W.seq fun K hK => ?_ | refine W.block ?_ | ((first | refine wR ?_ | refine wD ?_ | refine W.skip ?_ | refine W.exit ?_ | refine W.ret (Post.ret ?_)); simp only [go_sem, reduceCtorEq, f1]) | refine wT ?_ | refine wF ?_ | refine wC (fun h => ?_) (fun h => ?_)) | ((show AX _ _ _ _ _); (first | refine aP ?_ | refine aF ?_ | refine aL ?_ | refine aU (hnn := by simp only [go_sem, reduceCtorEq, f1]) ?_ | refine aM ?_ | refine aN ?_ | refine aR ?_ | refine aS (hb := by simp only [go_sem, reduceCtorEq, f1]; first | omega | (simp; omega)) ?_ | refine aH ?_ | refine aI ?_ | refine aB ?_ | refine aZ ?_); simp only [go_sem, reduceCtorEq, f1]) | refine iK ?_ | refine aI2 ?_ | (refine hK _ ?_; clear hK K) | clear hK K)
      refine PostG.normal (Fits.fit [(0, 0), (1, 1)] [] 2 rfl rfl Fits.rfl) rfl rfl ?_
      rw [hi]
      simp only [St.r, go_sem, rnCss_im]
end Go.Proofs.YtegcmciglakicaaGreat
namespace Go.Proofs.YtegcmciglakicaaGreat
open Go.RowKit Go.Exe
set_option linter.unusedVariables false
set_option linter.unusedSimpArgs false
set_option maxHeartbeats 1000000
set_option maxRecDepth 100000
attribute [local irreducible] W AX Run RunD AStep AOp AOpX AStB AStH AStG Fits PCall GCall PostG Post Stop

def textB (b : ByteArray) : List UInt8 := numB (b.size : Int) ++ b.data.toList
theorem numB_len (n : Int) (h1 : -9223372036854775808 ≤ n) (h2 : n < 9223372036854775808) : (numB n).length ≤ 9 := by
  unfold numB
  simp
  have := nsize_le 8 n.natAbs (by omega)
  omega
theorem text_c (l : List UInt8) (b : ByteArray) (hl : l.length + 9 + b.size ≤ 140737488355328) :
    GCall Tryz.prog 115 1 (St.g [.c (.ptr 0 0), ft (.string b)] [(0, .box 157 [.ref 1]), (1, .row 5 (imR (bsA l)))] 2) (St.r (.t []) [(0, .box 157 [.ref 1]), (1, .row 5 (imR (bsA (l ++ textB b))))] 2) := by
  have hnum := numB_len (b.size : Int) (by omega) (by omega)
  refine GCall.introG (nt := 19) (rs := []) Tryz.func115 rfl ⟨by kernel_rfl, by kernel_rfl, by kernel_rfl⟩ (by simp) ?_
  rintro ⟨P, w0, ok0, may, np, pblk⟩ rfl rfl
  simp only [go_sem]
  repeat' (first | ((show W _ _ _ _); first | refine W.seq fun K hK => ?_ | refine W.block ?_ | ((first | refine wR ?_ | refine wD ?_ | refine W.skip ?_ | refine W.exit ?_ | refine W.ret (Post.ret ?_)); simp only [go_sem, reduceCtorEq]) | refine wT ?_ | refine wF ?_ | refine wC (fun h => ?_) (fun h => ?_)) | ((show AX _ _ _ _ _); (first | refine aP ?_ | refine aF ?_ | refine aL ?_ | refine aU ?_ | refine aM ?_ | refine aN ?_ | refine aR ?_ | refine aS ?_ | refine aH ?_ | refine aI ?_ | refine aB ?_ | refine aZ ?_); simp only [go_sem, reduceCtorEq]) | refine iK ?_ | refine aI2 ?_ | (refine hK _ ?_; clear hK K) | clear hK K)
  refine AX.gcall [0, 1] rfl rfl (number_c l (b.size : Int) (by omega) (by omega) (by omega)) (by simp only [go_sem, reduceCtorEq]) (by simp only [go_sem, reduceCtorEq]) rfl rfl (by simp only [go_sem, Obj.owns]) rfl (by simp only [go_sem, Obj.owns]) rfl rfl ?_
  simp only [go_sem, reduceCtorEq]
  repeat' (first | ((show W _ _ _ _); first | refine W.seq fun K hK => ?_ | refine W.block ?_ | ((first | refine wR ?_ | refine wD ?_ | refine W.skip ?_ | refine W.exit ?_ | refine W.ret (Post.ret ?_)); simp only [go_sem, reduceCtorEq, rnCss_im, bsA_len]) | refine wT ?_ | refine wF ?_ | refine wC (fun h => ?_) (fun h => ?_)) | ((show AX _ _ _ _ _); (first | refine aP ?_ | refine aF ?_ | refine aL ?_ | refine aU (hnn := by simp only [go_sem, reduceCtorEq, rnCss_im, bsA_len]) ?_ | refine aM ?_ | refine aN ?_ | refine aR ?_ | refine aS (hb := by simp only [go_sem, reduceCtorEq, rnCss_im, bsA_len]; first | omega | (simp; omega)) ?_ | refine aH ?_ | refine aI ?_ | refine aB ?_ | refine aZ ?_); simp only [go_sem, reduceCtorEq, rnCss_im, bsA_len]) | refine iK ?_ | refine aI2 ?_ | (refine hK _ ?_; clear hK K) | clear hK K)
  refine PostG.normal (Fits.fit [(0, 0), (14, 1)] [] 2 rfl rfl Fits.rfl) rfl rfl ?_
  simp only [St.r, go_sem, rnCss_im, rnCss_app, textB, bsA_app, imR_app, List.append_assoc]
theorem bytes_c (l : List UInt8) :
    GCall Tryz.prog 84 1 (St.g [.c (.ptr 0 0)] [(0, .box 157 [.ref 1]), (1, .row 5 (imR (bsA l)))] 2) (St.r (ft (.string ⟨l.toArray⟩)) [(0, .box 157 [.ref 1]), (1, .row 5 (imR (bsA l)))] 2) := by
  refine GCall.introG (nt := 10) (rs := [.tmp 2]) Tryz.func84 rfl ⟨by kernel_rfl, by kernel_rfl, by kernel_rfl⟩ (by simp) ?_
  rintro ⟨P, w0, ok0, may, np, pblk⟩ rfl rfl
  simp only [go_sem]
  repeat' (first | ((show W _ _ _ _); first | refine W.seq fun K hK => ?_ | refine W.block ?_ | ((first | refine wR ?_ | refine wD ?_ | refine W.skip ?_ | refine W.exit ?_ | refine W.ret (Post.ret ?_)); simp only [go_sem, reduceCtorEq]) | refine wT ?_ | refine wF ?_ | refine wC (fun h => ?_) (fun h => ?_)) | ((show AX _ _ _ _ _); (first | refine aP ?_ | refine aF ?_ | refine aL ?_ | refine aU ?_ | refine aM ?_ | refine aN ?_ | refine aR ?_ | refine aS ?_ | refine aH ?_ | refine aI ?_ | refine aB ?_ | refine aZ ?_); simp only [go_sem, reduceCtorEq]) | refine iK ?_ | refine aI2 ?_ | (refine hK _ ?_; clear hK K) | clear hK K)
  refine AX.bytesStr l rfl tL155 tU9 tE5 tU5 rfl rfl rfl ?_
  simp only [go_sem]
  repeat' (first | ((show W _ _ _ _); first | refine W.seq fun K hK => ?_ | refine W.block ?_ | ((first | refine wR ?_ | refine wD ?_ | refine W.skip ?_ | refine W.exit ?_ | refine W.ret (Post.ret ?_)); simp only [go_sem, reduceCtorEq]) | refine wT ?_ | refine wF ?_ | refine wC (fun h => ?_) (fun h => ?_)) | ((show AX _ _ _ _ _); (first | refine aP ?_ | refine aF ?_ | refine aL ?_ | refine aU ?_ | refine aM ?_ | refine aN ?_ | refine aR ?_ | refine aS ?_ | refine aH ?_ | refine aI ?_ | refine aB ?_ | refine aZ ?_); simp only [go_sem, reduceCtorEq]) | refine iK ?_ | refine aI2 ?_ | (refine hK _ ?_; clear hK K) | clear hK K)
  refine W.ret (PostG.ret (Fits.fit [(0, 0), (1, 1)] [2] 2 rfl rfl Fits.rfl) rfl rfl ?_)
  simp only [St.r, go_sem]
theorem nameS (n : ByteArray × ByteArray) : True := trivial
/-- The key of a path. -/
def nmA (n : ByteArray × ByteArray) : List AV := [.flat (.string n.1), .flat (.string n.2)]
def nameB (n : ByteArray × ByteArray) : List UInt8 := textB n.1 ++ textB n.2
def pathB : List (ByteArray × ByteArray) → List UInt8
  | [] => []
  | n :: r => nameB n ++ pathB r
def pathW : List (ByteArray × ByteArray) → Nat
  | [] => 0
  | n :: r => 32 + n.1.size + n.2.size + pathW r
theorem pathB_app : ∀ l m, pathB (l ++ m) = pathB l ++ pathB m
  | [], _ => rfl
  | n :: r, m => by simp [pathB, pathB_app r m]
theorem pathW_app : ∀ l m, pathW (l ++ m) = pathW l + pathW m
  | [], _ => by simp [pathW]
  | n :: r, m => by simp [pathW, pathW_app r m]; omega
theorem textB_len (b : ByteArray) (h : b.size < 9223372036854775808) : (textB b).length ≤ 9 + b.size := by
  unfold textB
  have := numB_len (b.size : Int) (by omega) (by omega)
  have e : b.data.toList.length = b.size := by simp
  simp only [List.length_append, e]; omega
theorem pathW_mem : ∀ {l : List (ByteArray × ByteArray)} {n}, n ∈ l → 32 + n.1.size + n.2.size ≤ pathW l
  | m :: r, n, h => by
    rcases List.mem_cons.1 h with rfl | h
    · simp [pathW]
    · have := pathW_mem h; simp only [pathW]; omega
theorem pathB_len : ∀ (l : List (ByteArray × ByteArray)), pathW l < 9223372036854775808 → (pathB l).length ≤ pathW l
  | [], _ => by simp [pathB]
  | n :: r, h => by
    simp only [pathW] at h
    have h1 := textB_len n.1 (by omega)
    have h2 := textB_len n.2 (by omega)
    have h3 := pathB_len r (by omega)
    simp only [pathB, nameB, pathW, List.length_append]; omega
theorem pathKey_c (p : List (ByteArray × ByteArray)) (hp : pathW p ≤ 140737488355328) :
    PCall Tryz.prog 88 [.c (.im (.sl 88 (p.map nmA)))] (ft (.string ⟨(pathB p).toArray⟩)) := by
  refine PCall.intro (nt := 20) (rs := [.tmp 2]) Tryz.func88 rfl ⟨by kernel_rfl, by kernel_rfl, by kernel_rfl⟩ (by simp) ?_
  rintro ⟨P, w0, ok0, may, np, pblk⟩ rfl rfl
  repeat' (first | ((show W _ _ _ _); first | refine W.seq fun K hK => ?_ | refine W.block ?_ | ((first | refine wR ?_ | refine wD ?_ | refine W.skip ?_ | refine W.exit ?_ | refine W.ret (Post.ret ?_)); simp only [go_sem, reduceCtorEq]) | refine wT ?_ | refine wF ?_ | refine wC (fun h => ?_) (fun h => ?_)) | ((show AX _ _ _ _ _); (first | refine aP ?_ | refine aF ?_ | refine aL ?_ | refine aU ?_ | refine aM ?_ | refine aN ?_ | refine aR ?_ | refine aS ?_ | refine aH ?_ | refine aI ?_ | refine aB ?_ | refine aZ ?_); simp only [go_sem, reduceCtorEq]) | refine iK ?_ | refine aI2 ?_ | (refine hK _ ?_; clear hK K) | clear hK K)
  refine W.lenIm 6 rfl fun hlen => ?_
  rw [List.length_map, maxLen_is] at hlen
  refine W.loopF (T := fun i : Nat => { t := [(3, .c (.ptr 0 0)), (6, .c (.im (.sl 88 (p.map nmA)))), (7, ft (.int .i64 p.length)), (8, ft (.int .i64 (i : Nat)))], h := [(0, .box 157 [.ref 1]), (1, .row 5 (imR (bsA (pathB (p.take i)))))], nx := 2, ex := [], nt := 20 })
    (Inv := fun i => i ≤ p.length) (μ := fun i => p.length - i) (x0 := 0) ?_ (Nat.zero_le _) ?_
  · refine Fits.fit [(1, 0)] [3, 6, 7, 8] 1 rfl rfl ?_
    simp only [go_sem]
    refine Fits.adoptB 0 157 _ 0 1 5 rfl rfl rfl rfl tE5 rfl ?_
    simp only [go_sem]
    refine Fits.fit [(0, 0), (1, 1)] [3, 6, 7, 8] 2 rfl rfl ?_
    simp only [go_sem, List.length_map, List.set_cons_zero, pathB, bsA_nil, imR_nil]
    exact Fits.rfl
  intro i hi KL hKL
  by_cases hlt : i < p.length
  · obtain ⟨⟨n1, n2⟩, hx, hm, hd⟩ := drop_at hlt
    have e1 : decide ((i : Int) < p.length) = true := by simp; omega
    have hw := w64s i (by omega)
    have ht := take_at hx
    have hW : pathW (p.take (i + 1)) ≤ pathW p := by
      have := pathW_app (p.take (i + 1)) (p.drop (i + 1))
      rw [List.take_append_drop] at this
      omega
    have hW2 : pathW (p.take (i + 1)) = pathW (p.take i) + (32 + n1.size + n2.size) := by rw [ht, pathW_app]; simp [pathW]
    have hl := pathB_len (p.take i) (by omega)
    have hl2 := textB_len n1 (by omega)
    repeat' (first | ((show W _ _ _ _); first | refine W.seq fun K hK => ?_ | refine W.block ?_ | ((first | refine wR ?_ | refine wD ?_ | refine W.skip ?_ | refine W.exit ?_ | refine W.ret (Post.ret ?_)); simp only [go_sem, reduceCtorEq, e1, hw, List.getElem?_map, hx, nmA]) | refine wT ?_ | refine wF ?_ | refine wC (fun h => ?_) (fun h => ?_)) | ((show AX _ _ _ _ _); (first | refine aP ?_ | refine aF ?_ | refine aL ?_ | refine aU (hnn := by simp only [go_sem, reduceCtorEq, e1, hw, List.getElem?_map, hx, nmA]) ?_ | refine aM ?_ | refine aN ?_ | refine aR ?_ | refine aS (hb := by simp only [go_sem, reduceCtorEq, e1, hw, List.getElem?_map, hx, nmA]; first | omega | (simp; omega)) ?_ | refine aH ?_ | refine aI ?_ | refine aB ?_ | refine aZ ?_); simp only [go_sem, reduceCtorEq, e1, hw, List.getElem?_map, hx, nmA]) | refine iK ?_ | refine aI2 ?_ | (refine hK _ ?_; clear hK K) | clear hK K)
    refine AX.gcall [0, 1] rfl rfl (text_c (pathB (p.take i)) n1 (by omega)) (by simp only [go_sem, reduceCtorEq]) (by simp only [go_sem, reduceCtorEq]) rfl rfl (by simp only [go_sem, Obj.owns]) rfl (by simp only [go_sem, Obj.owns]) rfl rfl ?_
    simp only [go_sem, reduceCtorEq]
    repeat' (first | ((show W _ _ _ _); first | refine W.seq fun K hK => ?_ | refine W.block ?_ | ((first | refine wR ?_ | refine wD ?_ | refine W.skip ?_ | refine W.exit ?_ | refine W.ret (Post.ret ?_)); simp only [go_sem, reduceCtorEq]) | refine wT ?_ | refine wF ?_ | refine wC (fun h => ?_) (fun h => ?_)) | ((show AX _ _ _ _ _); (first | refine aP ?_ | refine aF ?_ | refine aL ?_ | refine aU ?_ | refine aM ?_ | refine aN ?_ | refine aR ?_ | refine aS ?_ | refine aH ?_ | refine aI ?_ | refine aB ?_ | refine aZ ?_); simp only [go_sem, reduceCtorEq]) | refine iK ?_ | refine aI2 ?_ | (refine hK _ ?_; clear hK K) | clear hK K)
    refine AX.gcall [0, 9] rfl rfl (text_c (pathB (p.take i) ++ textB n1) n2 (by simp only [List.length_append]; omega)) (by simp only [go_sem, reduceCtorEq]) (by simp only [go_sem, reduceCtorEq]) rfl rfl (by simp only [go_sem, Obj.owns]) rfl (by simp only [go_sem, Obj.owns]) rfl rfl ?_
    simp only [go_sem, reduceCtorEq]
    repeat' (first | ((show W _ _ _ _); first | refine W.seq fun K hK => ?_ | refine W.block ?_ | ((first | refine wR ?_ | refine wD ?_ | refine W.skip ?_ | refine W.exit ?_ | refine W.ret (Post.ret ?_)); simp only [go_sem, reduceCtorEq, hw]) | refine wT ?_ | refine wF ?_ | refine wC (fun h => ?_) (fun h => ?_)) | ((show AX _ _ _ _ _); (first | refine aP ?_ | refine aF ?_ | refine aL ?_ | refine aU (hnn := by simp only [go_sem, reduceCtorEq, hw]) ?_ | refine aM ?_ | refine aN ?_ | refine aR ?_ | refine aS (hb := by simp only [go_sem, reduceCtorEq, hw]; first | omega | (simp; omega)) ?_ | refine aH ?_ | refine aI ?_ | refine aB ?_ | refine aZ ?_); simp only [go_sem, reduceCtorEq, hw]) | refine iK ?_ | refine aI2 ?_ | (refine hK _ ?_; clear hK K) | clear hK K)
    refine hKL.to (i + 1) (by omega) (by omega) (Fits.fit [(0, 0), (12, 1)] [3, 6, 7, 8] 2 rfl rfl ?_)
    simp only [go_sem, ht, pathB_app, pathB, nameB, List.append_assoc]
    exact Fits.rfl
  · have e1 : decide ((i : Int) < p.length) = false := by simp; omega
    obtain rfl : i = p.length := by omega
    clear hKL
    repeat' (first | ((show W _ _ _ _); first | refine W.seq fun K hK => ?_ | refine W.block ?_ | ((first | refine wR ?_ | refine wD ?_ | refine W.skip ?_ | refine W.exit ?_ | refine W.ret (Post.ret ?_)); simp only [go_sem, reduceCtorEq, e1]) | refine wT ?_ | refine wF ?_ | refine wC (fun h => ?_) (fun h => ?_)) | ((show AX _ _ _ _ _); (first | refine aP ?_ | refine aF ?_ | refine aL ?_ | refine aU (hnn := by simp only [go_sem, reduceCtorEq, e1]) ?_ | refine aM ?_ | refine aN ?_ | refine aR ?_ | refine aS (hb := by simp only [go_sem, reduceCtorEq, e1]; first | omega | (simp; omega)) ?_ | refine aH ?_ | refine aI ?_ | refine aB ?_ | refine aZ ?_); simp only [go_sem, reduceCtorEq, e1]) | refine iK ?_ | refine aI2 ?_ | (refine hK _ ?_; clear hK K) | clear hK K)
    refine AX.gcall [0, 1] rfl rfl (bytes_c (pathB (p.take p.length))) (by simp only [go_sem, reduceCtorEq]) (by simp only [go_sem, reduceCtorEq]) rfl rfl (by simp only [go_sem, Obj.owns]) rfl (by simp only [go_sem, Obj.owns]) rfl rfl ?_
    simp only [go_sem, reduceCtorEq]
    repeat' (first | ((show W _ _ _ _); first | refine W.seq fun K hK => ?_ | refine W.block ?_ | ((first | refine wR ?_ | refine wD ?_ | refine W.skip ?_ | refine W.exit ?_ | refine W.ret (Post.ret ?_)); simp only [go_sem, reduceCtorEq]) | refine wT ?_ | refine wF ?_ | refine wC (fun h => ?_) (fun h => ?_)) | ((show AX _ _ _ _ _); (first | refine aP ?_ | refine aF ?_ | refine aL ?_ | refine aU ?_ | refine aM ?_ | refine aN ?_ | refine aR ?_ | refine aS ?_ | refine aH ?_ | refine aI ?_ | refine aB ?_ | refine aZ ?_); simp only [go_sem, reduceCtorEq]) | refine iK ?_ | refine aI2 ?_ | (refine hK _ ?_; clear hK K) | clear hK K)
    simp
end Go.Proofs.YtegcmciglakicaaGreat
namespace Go.Proofs.YtegcmciglakicaaGreat
open Go.RowKit Go.Exe
set_option linter.unusedVariables false
set_option linter.unusedSimpArgs false
set_option maxHeartbeats 1000000
set_option maxRecDepth 100000
attribute [local irreducible] W AX Run RunD AStep AOp AOpX AStB AStH AStG Fits PCall GCall PostG Post Stop

mutual
def Shp.keyB : Shp → List UInt8
  | .mk s o ks => textB s ++ (textB o ++ (numB (ks.length : Int) ++ keysB ks))
def keysB : List Shp → List UInt8
  | [] => []
  | x :: r => x.keyB ++ keysB r
end
mutual
def Shp.keyW : Shp → Nat
  | .mk s o ks => 27 + s.size + o.size + keysW ks
def keysW : List Shp → Nat
  | [] => 0
  | x :: r => x.keyW + keysW r
end
theorem keysB_app : ∀ l m, keysB (l ++ m) = keysB l ++ keysB m
  | [], _ => rfl
  | n :: r, m => by simp [keysB, keysB_app r m]
theorem keysW_app : ∀ l m, keysW (l ++ m) = keysW l + keysW m
  | [], _ => by simp [keysW]
  | n :: r, m => by simp [keysW, keysW_app r m]; omega
theorem keyW_pos (x : Shp) : 27 ≤ x.keyW := by cases x; simp only [Shp.keyW]; omega
theorem keysW_len : ∀ l : List Shp, l.length ≤ keysW l
  | [] => by simp
  | x :: r => by have := keyW_pos x; have := keysW_len r; simp only [keysW, List.length_cons]; omega
mutual
theorem keyB_len : ∀ x : Shp, x.keyW < 9223372036854775808 → x.keyB.length ≤ x.keyW
  | .mk s o ks, h => by
    simp only [Shp.keyW] at h
    have h1 := textB_len s (by omega)
    have h2 := textB_len o (by omega)
    have h3 := keysW_len ks
    have h4 := numB_len (ks.length : Int) (by omega) (by omega)
    have h5 := keysB_len ks (by omega)
    simp only [Shp.keyB, Shp.keyW, List.length_append]; omega
theorem keysB_len : ∀ l : List Shp, keysW l < 9223372036854775808 → (keysB l).length ≤ keysW l
  | [], _ => by simp [keysB]
  | x :: r, h => by
    simp only [keysW] at h
    have h1 := keyB_len x (by omega)
    have h2 := keysB_len r (by omega)
    simp only [keysB, keysW, List.length_append]; omega
end
theorem keysW_take {l : List Shp} {i : Nat} {x : Shp} (h : l[i]? = some x) : keysW (l.take i) + x.keyW ≤ keysW l := by
  have h1 := keysW_app (l.take (i + 1)) (l.drop (i + 1))
  rw [List.take_append_drop, take_at h, keysW_app] at h1
  simp [keysW] at h1
  omega
theorem write_c (s o : ByteArray) (ks : List Shp) (l : List UInt8) (hl : l.length + (Shp.mk s o ks).keyW ≤ 140737488355328) (ih : ∀ x ∈ ks, ∀ l : List UInt8, l.length + x.keyW ≤ 140737488355328 → GCall Tryz.prog 83 1 (St.g [.c (.ptr 0 0), shT x] [(0, .box 157 [.ref 1]), (1, .row 5 (imR (bsA l)))] 2) (St.r (.t []) [(0, .box 157 [.ref 1]), (1, .row 5 (imR (bsA (l ++ x.keyB))))] 2)) :
    GCall Tryz.prog 83 1 (St.g [.c (.ptr 0 0), shT (.mk s o ks)] [(0, .box 157 [.ref 1]), (1, .row 5 (imR (bsA l)))] 2) (St.r (.t []) [(0, .box 157 [.ref 1]), (1, .row 5 (imR (bsA (l ++ (Shp.mk s o ks).keyB))))] 2) := by
  simp only [Shp.keyW] at hl
  have hs := textB_len s (by omega)
  have ho := textB_len o (by omega)
  have hkl := keysW_len ks
  have hn := numB_len (ks.length : Int) (by omega) (by omega)
  have hkb := keysB_len ks (by omega)
  simp only [shT_mk]
  refine GCall.introG (nt := 30) (rs := []) Tryz.func83 rfl ⟨by kernel_rfl, by kernel_rfl, by kernel_rfl⟩ (by simp) ?_
  rintro ⟨P, w0, ok0, may, np, pblk⟩ rfl rfl
  simp only [go_sem]
  repeat' (first | ((show W _ _ _ _); first | refine W.seq fun K hK => ?_ | refine W.block ?_ | ((first | refine wR ?_ | refine wD ?_ | refine W.skip ?_ | refine W.exit ?_ | refine W.ret (Post.ret ?_)); simp only [go_sem, reduceCtorEq]) | refine wT ?_ | refine wF ?_ | refine wC (fun h => ?_) (fun h => ?_)) | ((show AX _ _ _ _ _); (first | refine aP ?_ | refine aF ?_ | refine aL ?_ | refine aU ?_ | refine aM ?_ | refine aN ?_ | refine aR ?_ | refine aS ?_ | refine aH ?_ | refine aI ?_ | refine aB ?_ | refine aZ ?_); simp only [go_sem, reduceCtorEq]) | refine iK ?_ | refine aI2 ?_ | (refine hK _ ?_; clear hK K) | clear hK K)
  refine AX.gcall [0, 1] rfl rfl (text_c l s (by omega)) (by simp only [go_sem, reduceCtorEq]) (by simp only [go_sem, reduceCtorEq]) rfl rfl (by simp only [go_sem, Obj.owns]) rfl (by simp only [go_sem, Obj.owns]) rfl rfl ?_
  simp only [go_sem, reduceCtorEq]
  repeat' (first | ((show W _ _ _ _); first | refine W.seq fun K hK => ?_ | refine W.block ?_ | ((first | refine wR ?_ | refine wD ?_ | refine W.skip ?_ | refine W.exit ?_ | refine W.ret (Post.ret ?_)); simp only [go_sem, reduceCtorEq]) | refine wT ?_ | refine wF ?_ | refine wC (fun h => ?_) (fun h => ?_)) | ((show AX _ _ _ _ _); (first | refine aP ?_ | refine aF ?_ | refine aL ?_ | refine aU ?_ | refine aM ?_ | refine aN ?_ | refine aR ?_ | refine aS ?_ | refine aH ?_ | refine aI ?_ | refine aB ?_ | refine aZ ?_); simp only [go_sem, reduceCtorEq]) | refine iK ?_ | refine aI2 ?_ | (refine hK _ ?_; clear hK K) | clear hK K)
  refine AX.gcall [0, 6] rfl rfl (text_c (l ++ textB s) o (by simp only [List.length_append]; omega)) (by simp only [go_sem, reduceCtorEq]) (by simp only [go_sem, reduceCtorEq]) rfl rfl (by simp only [go_sem, Obj.owns]) rfl (by simp only [go_sem, Obj.owns]) rfl rfl ?_
  simp only [go_sem, reduceCtorEq]
  repeat' (first | ((show W _ _ _ _); first | refine W.seq fun K hK => ?_ | refine W.block ?_ | ((first | refine wR ?_ | refine wD ?_ | refine W.skip ?_ | refine W.exit ?_ | refine W.ret (Post.ret ?_)); simp only [go_sem, reduceCtorEq, avs_len]) | refine wT ?_ | refine wF ?_ | refine wC (fun h => ?_) (fun h => ?_)) | ((show AX _ _ _ _ _); (first | refine aP ?_ | refine aF ?_ | refine aL ?_ | refine aU (hnn := by simp only [go_sem, reduceCtorEq, avs_len]) ?_ | refine aM ?_ | refine aN ?_ | refine aR ?_ | refine aS (hb := by simp only [go_sem, reduceCtorEq, avs_len]; first | omega | (simp; omega)) ?_ | refine aH ?_ | refine aI ?_ | refine aB ?_ | refine aZ ?_); simp only [go_sem, reduceCtorEq, avs_len]) | refine iK ?_ | refine aI2 ?_ | (refine hK _ ?_; clear hK K) | clear hK K)
  refine AX.gcall [0, 10] rfl rfl (number_c (l ++ textB s ++ textB o) (ks.length : Int) (by omega) (by omega) (by simp only [List.length_append]; omega)) (by simp only [go_sem, reduceCtorEq]) (by simp only [go_sem, reduceCtorEq]) rfl rfl (by simp only [go_sem, Obj.owns]) rfl (by simp only [go_sem, Obj.owns]) rfl rfl ?_
  simp only [go_sem, reduceCtorEq]
  repeat' (first | ((show W _ _ _ _); first | refine W.seq fun K hK => ?_ | refine W.block ?_ | ((first | refine wR ?_ | refine wD ?_ | refine W.skip ?_ | refine W.exit ?_ | refine W.ret (Post.ret ?_)); simp only [go_sem, reduceCtorEq, avs_len]) | refine wT ?_ | refine wF ?_ | refine wC (fun h => ?_) (fun h => ?_)) | ((show AX _ _ _ _ _); (first | refine aP ?_ | refine aF ?_ | refine aL ?_ | refine aU (hnn := by simp only [go_sem, reduceCtorEq, avs_len]) ?_ | refine aM ?_ | refine aN ?_ | refine aR ?_ | refine aS (hb := by simp only [go_sem, reduceCtorEq, avs_len]; first | omega | (simp; omega)) ?_ | refine aH ?_ | refine aI ?_ | refine aB ?_ | refine aZ ?_); simp only [go_sem, reduceCtorEq, avs_len]) | refine iK ?_ | refine aI2 ?_ | (refine hK _ ?_; clear hK K) | clear hK K)
  refine W.loopF (T := fun i : Nat => { t := [(0, .c (.ptr 0 0)), (20, .c (.im (.sl 41 (avs ks)))), (21, ft (.int .i64 ks.length)), (22, ft (.int .i64 (i : Nat)))], h := [(0, .box 157 [.ref 1]), (1, .row 5 (imR (bsA (l ++ textB s ++ textB o ++ numB (ks.length : Int) ++ keysB (ks.take i)))))], nx := 2, ex := [], nt := 30 })
    (Inv := fun i => i ≤ ks.length) (μ := fun i => ks.length - i) (x0 := 0) (Fits.fit [(0, 0), (15, 1)] [0, 20, 21, 22] 2 rfl rfl ?_) (Nat.zero_le _) ?_
  · simp only [go_sem, keysB, List.append_nil]
    exact Fits.rfl
  intro i hi KL hKL
  by_cases hlt : i < ks.length
  · obtain ⟨⟨s', o', ks'⟩, hx, hm, hd⟩ := drop_at hlt
    have e1 : decide ((i : Int) < ks.length) = true := by simp; omega
    have hw := w64s i (by omega)
    have hW := keysW_take hx
    have hkb2 := keysB_len (ks.take i) (by omega)
    have hc := ih _ hm (l ++ textB s ++ textB o ++ numB (ks.length : Int) ++ keysB (ks.take i)) (by simp only [List.length_append]; omega)
    simp only [shT_mk] at hc
    repeat' (first | ((show W _ _ _ _); first | refine W.seq fun K hK => ?_ | refine W.block ?_ | ((first | refine wR ?_ | refine wD ?_ | refine W.skip ?_ | refine W.exit ?_ | refine W.ret (Post.ret ?_)); simp only [go_sem, reduceCtorEq, e1, hw, avs_get, hx, Shp.av]) | refine wT ?_ | refine wF ?_ | refine wC (fun h => ?_) (fun h => ?_)) | ((show AX _ _ _ _ _); (first | refine aP ?_ | refine aF ?_ | refine aL ?_ | refine aU (hnn := by simp only [go_sem, reduceCtorEq, e1, hw, avs_get, hx, Shp.av]) ?_ | refine aM ?_ | refine aN ?_ | refine aR ?_ | refine aS (hb := by simp only [go_sem, reduceCtorEq, e1, hw, avs_get, hx, Shp.av]; first | omega | (simp; omega)) ?_ | refine aH ?_ | refine aI ?_ | refine aB ?_ | refine aZ ?_); simp only [go_sem, reduceCtorEq, e1, hw, avs_get, hx, Shp.av]) | refine iK ?_ | refine aI2 ?_ | (refine hK _ ?_; clear hK K) | clear hK K)
    refine AX.gcall [0, 1] rfl rfl (hc) (by simp only [go_sem, reduceCtorEq]) (by simp only [go_sem, reduceCtorEq]) rfl rfl (by simp only [go_sem, Obj.owns]) rfl (by simp only [go_sem, Obj.owns]) rfl rfl ?_
    simp only [go_sem, reduceCtorEq]
    repeat' (first | ((show W _ _ _ _); first | refine W.seq fun K hK => ?_ | refine W.block ?_ | ((first | refine wR ?_ | refine wD ?_ | refine W.skip ?_ | refine W.exit ?_ | refine W.ret (Post.ret ?_)); simp only [go_sem, reduceCtorEq, hw]) | refine wT ?_ | refine wF ?_ | refine wC (fun h => ?_) (fun h => ?_)) | ((show AX _ _ _ _ _); (first | refine aP ?_ | refine aF ?_ | refine aL ?_ | refine aU (hnn := by simp only [go_sem, reduceCtorEq, hw]) ?_ | refine aM ?_ | refine aN ?_ | refine aR ?_ | refine aS (hb := by simp only [go_sem, reduceCtorEq, hw]; first | omega | (simp; omega)) ?_ | refine aH ?_ | refine aI ?_ | refine aB ?_ | refine aZ ?_); simp only [go_sem, reduceCtorEq, hw]) | refine iK ?_ | refine aI2 ?_ | (refine hK _ ?_; clear hK K) | clear hK K)
    refine hKL.to (i + 1) (by omega) (by omega) (Fits.fit [(0, 0), (9, 1)] [0, 20, 21, 22] 2 rfl rfl ?_)
    simp only [go_sem, take_at hx, keysB_app, keysB, List.append_assoc, List.append_nil]
    exact Fits.rfl
  · have e1 : decide ((i : Int) < ks.length) = false := by simp; omega
    obtain rfl : i = ks.length := by omega
    clear hKL
    repeat' (first | ((show W _ _ _ _); first | refine W.seq fun K hK => ?_ | refine W.block ?_ | ((first | refine wR ?_ | refine wD ?_ | refine W.skip ?_ | refine W.exit ?_ | refine W.ret (Post.ret ?_)); simp only [go_sem, reduceCtorEq, e1]) | refine wT ?_ | refine wF ?_ | refine wC (fun h => ?_) (fun h => ?_)) | ((show AX _ _ _ _ _); (first | refine aP ?_ | refine aF ?_ | refine aL ?_ | refine aU (hnn := by simp only [go_sem, reduceCtorEq, e1]) ?_ | refine aM ?_ | refine aN ?_ | refine aR ?_ | refine aS (hb := by simp only [go_sem, reduceCtorEq, e1]; first | omega | (simp; omega)) ?_ | refine aH ?_ | refine aI ?_ | refine aB ?_ | refine aZ ?_); simp only [go_sem, reduceCtorEq, e1]) | refine iK ?_ | refine aI2 ?_ | (refine hK _ ?_; clear hK K) | clear hK K)
    refine PostG.normal (Fits.fit [(0, 0), (1, 1)] [] 2 rfl rfl Fits.rfl) rfl rfl ?_
    simp only [St.r, go_sem, List.take_length, Shp.keyB, List.append_assoc]
theorem write_all : ∀ (x : Shp) (l : List UInt8), l.length + x.keyW ≤ 140737488355328 → GCall Tryz.prog 83 1 (St.g [.c (.ptr 0 0), shT x] [(0, .box 157 [.ref 1]), (1, .row 5 (imR (bsA l)))] 2) (St.r (.t []) [(0, .box 157 [.ref 1]), (1, .row 5 (imR (bsA (l ++ x.keyB))))] 2)
  | .mk s o ks, l, hl => write_c s o ks l hl fun x hx l hl => write_all x l hl
termination_by x => SizeOf.sizeOf x
decreasing_by
  have := List.sizeOf_lt_of_mem hx
  simp only [Shp.mk.sizeOf_spec]
  omega
theorem wr_nil {f : Nat} {args : List TV} {q : St} (h : GCall Tryz.prog f 1 (St.g args [(0, .box 157 [.ref 1]), (1, .row 5 (imR (bsA [])))] 2) q) : GCall Tryz.prog f 1 (St.g args [(0, .box 157 [fl (.slice none 0 0)])] 1) q := by
  refine h.fits ?_
  rintro ⟨P, w0, ok0, may, np, pblk⟩ rfl rfl
  simp only [St.g]
  refine Fits.adoptB 0 157 _ 0 1 5 rfl rfl rfl rfl tE5 rfl ?_
  simp only [go_sem, List.set_cons_zero, bsA_nil, imR_nil]
  exact Fits.swap rfl Fits.rfl
theorem key_c (x : Shp) (c12 : PCall Tryz.prog 26 [shT x] (shT x.canon)) (hl : x.canon.keyW ≤ 140737488355328) : PCall Tryz.prog 49 [shT x] (ft (.string ⟨x.canon.keyB.toArray⟩)) := by
  have hw := wr_nil (write_all x.canon [] (by simpa using hl))
  rw [List.nil_append] at hw
  generalize x.canon = y at *
  obtain ⟨s, o, ks⟩ := x
  obtain ⟨s', o', ks'⟩ := y
  simp only [shT_mk] at *
  refine PCall.intro (nt := 8) (rs := [.tmp 2]) Tryz.func49 rfl ⟨by kernel_rfl, by kernel_rfl, by kernel_rfl⟩ (by simp) ?_
  rintro ⟨P, w0, ok0, may, np, pblk⟩ rfl rfl
  repeat' (first | ((show W _ _ _ _); first | refine W.seq fun K hK => ?_ | refine W.block ?_ | ((first | refine wR ?_ | refine wD ?_ | refine W.skip ?_ | refine W.exit ?_ | refine W.ret (Post.ret ?_)); simp only [go_sem, reduceCtorEq]) | refine wT ?_ | refine wF ?_ | refine wC (fun h => ?_) (fun h => ?_)) | ((show AX _ _ _ _ _); (first | refine aP ?_ | refine aF ?_ | refine aL ?_ | refine aU ?_ | refine aM ?_ | refine aN ?_ | refine aR ?_ | refine aS ?_ | refine aH ?_ | refine aI ?_ | refine aB ?_ | refine aZ ?_); simp only [go_sem, reduceCtorEq]) | refine iK ?_ | refine aI2 ?_ | (refine hK _ ?_; clear hK K) | clear hK K)
  refine AX.gcall [2] rfl rfl (hw) (by simp only [go_sem, reduceCtorEq]) (by simp only [go_sem, reduceCtorEq]) rfl rfl (by simp only [go_sem, Obj.owns]) rfl (by simp only [go_sem, Obj.owns]) rfl rfl ?_
  simp only [go_sem, reduceCtorEq]
  repeat' (first | ((show W _ _ _ _); first | refine W.seq fun K hK => ?_ | refine W.block ?_ | ((first | refine wR ?_ | refine wD ?_ | refine W.skip ?_ | refine W.exit ?_ | refine W.ret (Post.ret ?_)); simp only [go_sem, reduceCtorEq]) | refine wT ?_ | refine wF ?_ | refine wC (fun h => ?_) (fun h => ?_)) | ((show AX _ _ _ _ _); (first | refine aP ?_ | refine aF ?_ | refine aL ?_ | refine aU ?_ | refine aM ?_ | refine aN ?_ | refine aR ?_ | refine aS ?_ | refine aH ?_ | refine aI ?_ | refine aB ?_ | refine aZ ?_); simp only [go_sem, reduceCtorEq]) | refine iK ?_ | refine aI2 ?_ | (refine hK _ ?_; clear hK K) | clear hK K)
  refine AX.gcall [2, 5] rfl rfl (bytes_c (Shp.keyB (.mk s' o' ks'))) (by simp only [go_sem, reduceCtorEq]) (by simp only [go_sem, reduceCtorEq]) rfl rfl (by simp only [go_sem, Obj.owns]) rfl (by simp only [go_sem, Obj.owns]) rfl rfl ?_
  simp only [go_sem, reduceCtorEq]
  repeat' (first | ((show W _ _ _ _); first | refine W.seq fun K hK => ?_ | refine W.block ?_ | ((first | refine wR ?_ | refine wD ?_ | refine W.skip ?_ | refine W.exit ?_ | refine W.ret (Post.ret ?_)); simp only [go_sem, reduceCtorEq]) | refine wT ?_ | refine wF ?_ | refine wC (fun h => ?_) (fun h => ?_)) | ((show AX _ _ _ _ _); (first | refine aP ?_ | refine aF ?_ | refine aL ?_ | refine aU ?_ | refine aM ?_ | refine aN ?_ | refine aR ?_ | refine aS ?_ | refine aH ?_ | refine aI ?_ | refine aB ?_ | refine aZ ?_); simp only [go_sem, reduceCtorEq]) | refine iK ?_ | refine aI2 ?_ | (refine hK _ ?_; clear hK K) | clear hK K)
end Go.Proofs.YtegcmciglakicaaGreat
namespace Go.Proofs.YtegcmciglakicaaGreat
open Go.RowKit Go.Exe
set_option linter.unusedVariables false
set_option linter.unusedSimpArgs false
set_option maxHeartbeats 1000000
set_option maxRecDepth 100000
attribute [local irreducible] W AX Run RunD AStep AOp AOpX AStB AStH AStG Fits PCall GCall PostG Post Stop

abbrev Nm := ByteArray × ByteArray
theorem clone_c (p : List Nm) : GCall Tryz.prog 87 0 (St.g [.c (.im (.sl 88 (p.map nmA)))] [] 0) (St.r (.c (.ref 0)) [(0, .row 88 (imR (p.map nmA)))] 1) := by
  refine GCall.introG (nt := 8) (rs := [.tmp 2]) Tryz.func87 rfl ⟨by kernel_rfl, by kernel_rfl, by kernel_rfl⟩ (by simp) ?_
  rintro ⟨P, w0, ok0, may, np, pblk⟩ rfl rfl
  simp only [go_sem]
  refine W.lenB 0 rfl tE88 fun hlen hbytes => ?_
  rw [List.length_map] at hlen hbytes
  refine W.nilCase 0 rfl (fun h0 => ?_) ?_
  · rw [h0]
    simp only [go_sem]
    repeat' (first | ((show W _ _ _ _); first | refine W.seq fun K hK => ?_ | refine W.block ?_ | ((first | refine wR ?_ | refine wD ?_ | refine W.skip ?_ | refine W.exit ?_ | refine W.ret (Post.ret ?_)); simp only [go_sem, reduceCtorEq]) | refine wT ?_ | refine wF ?_ | refine wC (fun h => ?_) (fun h => ?_)) | ((show AX _ _ _ _ _); (first | refine aP ?_ | refine aF ?_ | refine aL ?_ | refine aU ?_ | refine aM ?_ | refine aN ?_ | refine aR ?_ | refine aS ?_ | refine aH ?_ | refine aI ?_ | refine aB ?_ | refine aZ ?_); simp only [go_sem, reduceCtorEq]) | refine iK ?_ | refine aI2 ?_ | (refine hK _ ?_; clear hK K) | clear hK K)
    refine W.ret (PostG.ret (Fits.fit [] [2] 0 rfl rfl (Fits.adopt 2 0 88 rfl rfl rfl tE88 rfl Fits.rfl)) rfl rfl ?_)
    simp only [St.r, go_sem, imR_nil]
  · simp only [go_sem]
    repeat' (first | ((show W _ _ _ _); first | refine W.seq fun K hK => ?_ | refine W.block ?_ | ((first | refine wR ?_ | refine wD ?_ | refine W.skip ?_ | refine W.exit ?_ | refine W.ret (Post.ret ?_)); simp only [go_sem, reduceCtorEq]) | refine wT ?_ | refine wF ?_ | refine wC (fun h => ?_) (fun h => ?_)) | ((show AX _ _ _ _ _); (first | refine aP ?_ | refine aF ?_ | refine aL ?_ | refine aU ?_ | refine aM ?_ | refine aN ?_ | refine aR ?_ | refine aS ?_ | refine aH ?_ | refine aI ?_ | refine aB ?_ | refine aZ ?_); simp only [go_sem, reduceCtorEq]) | refine iK ?_ | refine aI2 ?_ | (refine hK _ ?_; clear hK K) | clear hK K)
    refine W.ret (PostG.ret (Fits.fit [(5, 0)] [2] 1 rfl rfl Fits.rfl) rfl rfl ?_)
    simp only [St.r, go_sem]
def cmpN (a b : Nm) : Int := orL [cmpB a.1 b.1, cmpB a.2 b.2]
theorem compareNames_c (cOr : ∀ l : List Int, PCall Tryz.prog 52 [.c (.im (.sl 3 (l.map iA)))] (ft (.int .i64 (orL l)))) (a b : Nm) : PCall Tryz.prog 92 [.g ((nmA a).map .im), .g ((nmA b).map .im)] (ft (.int .i64 (cmpN a b))) := by
  have c1 := cmpCompare_c
  have c2 := cOr [cmpB a.1 b.1, cmpB a.2 b.2]
  simp only [List.map, iA] at c2
  simp only [nmA, List.map]
  refine PCall.intro (nt := 17) (rs := [.tmp 4]) Tryz.func92 rfl ⟨by kernel_rfl, by kernel_rfl, by kernel_rfl⟩ (by simp) ?_
  rintro ⟨P, w0, ok0, may, np, pblk⟩ rfl rfl
  repeat' (first | ((show W _ _ _ _); first | refine W.seq fun K hK => ?_ | refine W.block ?_ | ((first | refine wR ?_ | refine wD ?_ | refine W.skip ?_ | refine W.exit ?_ | refine W.ret (Post.ret ?_)); simp only [go_sem, reduceCtorEq]) | refine wT ?_ | refine wF ?_ | refine wC (fun h => ?_) (fun h => ?_)) | ((show AX _ _ _ _ _); (first | refine aP ?_ | refine aF ?_ | refine aL ?_ | refine aU ?_ | refine aM ?_ | refine aN ?_ | refine aR ?_ | refine aS ?_ | refine aH ?_ | refine aI ?_ | refine aB ?_ | refine aZ ?_); simp only [go_sem, reduceCtorEq]) | refine iK ?_ | refine aI2 ?_ | (refine hK _ ?_; clear hK K) | clear hK K)
  all_goals simp_all [cmpN]
def cmpsG {α : Type} (cm : α → α → Int) : List α → List α → Int
  | [], [] => 0
  | [], _ :: _ => -1
  | _ :: _, [] => 1
  | x :: r, y :: q => if cm x y ≠ 0 then cm x y else cmpsG cm r q
theorem compareFuncN_c (f : Nat) (cm : Nm → Nm → Int) (xs ys : List Nm) (hf : ∀ x ∈ xs, ∀ y ∈ ys, PCall Tryz.prog f [.g ((nmA x).map .im), .g ((nmA y).map .im)] (ft (.int .i64 (cm x y)))) :
    PCall Tryz.prog 91 [.c (.im (.sl 88 (xs.map nmA))), .c (.im (.sl 88 (ys.map nmA))), ft (.func (.func f) #[] #[])] (ft (.int .i64 (cmpsG cm xs ys))) := by
  refine PCall.intro (nt := 39) (rs := [.tmp 6]) Tryz.func91 rfl ⟨by kernel_rfl, by kernel_rfl, by kernel_rfl⟩ (by simp) ?_
  rintro ⟨P, w0, ok0, may, np, pblk⟩ rfl rfl
  refine W.lenIm 0 rfl fun hlen => ?_
  rw [List.length_map, maxLen_is] at hlen
  repeat' (first | ((show W _ _ _ _); first | refine W.seq fun K hK => ?_ | refine W.block ?_ | ((first | refine wR ?_ | refine wD ?_ | refine W.skip ?_ | refine W.exit ?_ | refine W.ret (Post.ret ?_)); simp only [go_sem, reduceCtorEq]) | refine wT ?_ | refine wF ?_ | refine wC (fun h => ?_) (fun h => ?_)) | ((show AX _ _ _ _ _); (first | refine aP ?_ | refine aF ?_ | refine aL ?_ | refine aU ?_ | refine aM ?_ | refine aN ?_ | refine aR ?_ | refine aS ?_ | refine aH ?_ | refine aI ?_ | refine aB ?_ | refine aZ ?_); simp only [go_sem, reduceCtorEq]) | refine iK ?_ | refine aI2 ?_ | (refine hK _ ?_; clear hK K) | clear hK K)
  refine W.loopF (T := fun i : Nat => { t := [(0, .c (.im (.sl 88 (xs.map nmA)))), (1, .c (.im (.sl 88 (ys.map nmA)))), (2, ft (.func (.func f) #[] #[])), (6, ft (.int .i64 0)), (11, .c (.im (.sl 88 (xs.map nmA)))), (12, ft (.int .i64 xs.length)), (13, ft (.int .i64 (i : Nat)))], h := [], nx := 0, ex := [], nt := 39 })
    (Inv := fun i => i ≤ xs.length ∧ i ≤ ys.length ∧ cmpsG cm xs ys = cmpsG cm (xs.drop i) (ys.drop i)) (μ := fun i => xs.length - i) (x0 := 0) (Fits.fit [] [0, 1, 2, 6, 11, 12, 13] 0 rfl rfl ?_) ⟨Nat.zero_le _, Nat.zero_le _, rfl⟩ ?_
  · simp only [go_sem]
    exact Fits.rfl
  rintro i ⟨hi, hi2, hinv⟩ KL hKL
  by_cases hlt : i < xs.length
  · obtain ⟨⟨s, o⟩, hx, hm, hd⟩ := drop_at hlt
    have e1 : decide ((i : Int) < xs.length) = true := by simp; omega
    have hw := w64s i (by omega)
    by_cases hlt2 : i < ys.length
    · obtain ⟨⟨s', o'⟩, hx', hm', hd'⟩ := drop_at hlt2
      have hc := hf _ hm _ hm'
      simp only [nmA, List.map] at hc
      have e2 : decide ((i : Int) ≥ ys.length) = false := by simp; omega
      repeat' (first | ((show W _ _ _ _); first | refine W.seq fun K hK => ?_ | refine W.block ?_ | ((first | refine wR ?_ | refine wD ?_ | refine W.skip ?_ | refine W.exit ?_ | refine W.ret (Post.ret ?_)); simp only [go_sem, reduceCtorEq, List.getElem?_map, hx, hx', nmA, e1, e2, hw]) | refine wT ?_ | refine wF ?_ | refine wC (fun h => ?_) (fun h => ?_)) | ((show AX _ _ _ _ _); (first | refine aP ?_ | refine aF ?_ | refine aL ?_ | refine aU (hnn := by simp only [go_sem, reduceCtorEq, List.getElem?_map, hx, hx', nmA, e1, e2, hw]) ?_ | refine aM ?_ | refine aN ?_ | refine aR ?_ | refine aS (hb := by simp only [go_sem, reduceCtorEq, List.getElem?_map, hx, hx', nmA, e1, e2, hw]; first | omega | (simp; omega)) ?_ | refine aH ?_ | refine aI ?_ | refine aB ?_ | refine aZ ?_); simp only [go_sem, reduceCtorEq, List.getElem?_map, hx, hx', nmA, e1, e2, hw]) | refine iK ?_ | refine aI2 ?_ | (refine hK _ ?_; clear hK K) | clear hK K)
      · simp at h
        simp [hinv, hd, hd', cmpsG, h]
      · refine hKL.to (i + 1) ⟨by omega, by omega, ?_⟩ (by omega) (Fits.fit [] [0, 1, 2, 6, 11, 12, 13] 0 rfl rfl ?_)
        · simp at h
          simp [hinv, hd, hd', cmpsG, h]
        · simp only [go_sem]
          exact Fits.rfl
    · have e2 : decide ((i : Int) ≥ ys.length) = true := by simp; omega
      repeat' (first | ((show W _ _ _ _); first | refine W.seq fun K hK => ?_ | refine W.block ?_ | ((first | refine wR ?_ | refine wD ?_ | refine W.skip ?_ | refine W.exit ?_ | refine W.ret (Post.ret ?_)); simp only [go_sem, reduceCtorEq, List.getElem?_map, hx, nmA, e1, e2, hw]) | refine wT ?_ | refine wF ?_ | refine wC (fun h => ?_) (fun h => ?_)) | ((show AX _ _ _ _ _); (first | refine aP ?_ | refine aF ?_ | refine aL ?_ | refine aU (hnn := by simp only [go_sem, reduceCtorEq, List.getElem?_map, hx, nmA, e1, e2, hw]) ?_ | refine aM ?_ | refine aN ?_ | refine aR ?_ | refine aS (hb := by simp only [go_sem, reduceCtorEq, List.getElem?_map, hx, nmA, e1, e2, hw]; first | omega | (simp; omega)) ?_ | refine aH ?_ | refine aI ?_ | refine aB ?_ | refine aZ ?_); simp only [go_sem, reduceCtorEq, List.getElem?_map, hx, nmA, e1, e2, hw]) | refine iK ?_ | refine aI2 ?_ | (refine hK _ ?_; clear hK K) | clear hK K)
      have : ys.drop i = [] := List.drop_eq_nil_of_le (by omega)
      simp [hinv, hd, this, cmpsG]
  · have e1 : decide ((i : Int) < xs.length) = false := by simp; omega
    have hd : xs.drop i = [] := List.drop_eq_nil_of_le (by omega)
    clear hKL
    repeat' (first | ((show W _ _ _ _); first | refine W.seq fun K hK => ?_ | refine W.block ?_ | ((first | refine wR ?_ | refine wD ?_ | refine W.skip ?_ | refine W.exit ?_ | refine W.ret (Post.ret ?_)); simp only [go_sem, reduceCtorEq, e1]) | refine wT ?_ | refine wF ?_ | refine wC (fun h => ?_) (fun h => ?_)) | ((show AX _ _ _ _ _); (first | refine aP ?_ | refine aF ?_ | refine aL ?_ | refine aU (hnn := by simp only [go_sem, reduceCtorEq, e1]) ?_ | refine aM ?_ | refine aN ?_ | refine aR ?_ | refine aS (hb := by simp only [go_sem, reduceCtorEq, e1]; first | omega | (simp; omega)) ?_ | refine aH ?_ | refine aI ?_ | refine aB ?_ | refine aZ ?_); simp only [go_sem, reduceCtorEq, e1]) | refine iK ?_ | refine aI2 ?_ | (refine hK _ ?_; clear hK K) | clear hK K)
    · obtain ⟨x, r, hd'⟩ : ∃ x r, ys.drop i = x :: r := by
        simp at h
        obtain ⟨x, _, _, h4⟩ := drop_at (show i < ys.length by omega)
        exact ⟨x, _, h4⟩
      simp [hinv, hd, hd', cmpsG]
    · have : ys.drop i = [] := by simp at h; exact List.drop_eq_nil_of_le (by omega)
      simp [hinv, hd, this, cmpsG]
def cmpPath (a b : List Nm) : Int := cmpsG cmpN a b
def dlA (d : List Nm × Int) : List AV := [.sl 88 (d.1.map nmA), .flat (.int .i64 d.2)]
theorem listCmp_c (cOr : ∀ l : List Int, PCall Tryz.prog 52 [.c (.im (.sl 3 (l.map iA)))] (ft (.int .i64 (orL l)))) (a b : List Nm × Int) : PCall Tryz.prog 90 [.g ((dlA a).map .im), .g ((dlA b).map .im)] (ft (.int .i64 (cmpPath a.1 b.1))) := by
  have hc := compareFuncN_c 92 cmpN a.1 b.1 fun x _ y _ => compareNames_c cOr x y
  simp only [dlA, List.map, cmpPath]
  refine PCall.intro (nt := 10) (rs := [.tmp 4]) Tryz.func90 rfl ⟨by kernel_rfl, by kernel_rfl, by kernel_rfl⟩ (by simp) ?_
  rintro ⟨P, w0, ok0, may, np, pblk⟩ rfl rfl
  repeat' (first | ((show W _ _ _ _); first | refine W.seq fun K hK => ?_ | refine W.block ?_ | ((first | refine wR ?_ | refine wD ?_ | refine W.skip ?_ | refine W.exit ?_ | refine W.ret (Post.ret ?_)); simp only [go_sem, reduceCtorEq]) | refine wT ?_ | refine wF ?_ | refine wC (fun h => ?_) (fun h => ?_)) | ((show AX _ _ _ _ _); (first | refine aP ?_ | refine aF ?_ | refine aL ?_ | refine aU ?_ | refine aM ?_ | refine aN ?_ | refine aR ?_ | refine aS ?_ | refine aH ?_ | refine aI ?_ | refine aB ?_ | refine aZ ?_); simp only [go_sem, reduceCtorEq]) | refine iK ?_ | refine aI2 ?_ | (refine hK _ ?_; clear hK K) | clear hK K)
end Go.Proofs.YtegcmciglakicaaGreat
namespace Go.Proofs.YtegcmciglakicaaGreat
open Go.RowKit Go.Exe
set_option linter.unusedVariables false
set_option linter.unusedSimpArgs false
set_option maxHeartbeats 1000000
set_option maxRecDepth 100000
attribute [local irreducible] W AX Run RunD AStep AOp AOpX AStB AStH AStG Fits PCall GCall PostG Post Stop

theorem imR_sn2 (xs : List (List AV)) (a b : AV) : imR xs ++ [[.im a, .im b]] = imR (xs ++ [[a, b]]) := by simp [imR, imL]
abbrev Dl := List Nm × Int
def pkey (p : List Nm) : Value := .string ⟨(pathB p).toArray⟩
def dE (ds : List Dl) : List (Value × Bool × List Cell) := ds.map fun d => (pkey d.1, false, [.obox 86 (dlA d)])
theorem pkey_inj {p q : List Nm} : pkey p = pkey q ↔ pathB p = pathB q := by
  unfold pkey
  constructor
  · intro h
    injection h with h
    injection h with h
    simpa using congrArg Array.toList h
  · intro h; rw [h]
theorem rnEs_dE (r : Ren) (ds : List Dl) : rnEs r (dE ds) = dE ds := by
  unfold dE
  induction ds with
  | nil => rfl
  | cons d l ih => simp only [List.map_cons, rnEs, rnCs, rnC]; rw [ih]
def addD (p : List Nm) (by_ : Int) : List Dl → List Dl
  | [] => [(p, by_)]
  | d :: r => if pathB d.1 = pathB p then (d.1, IntKind.i64.wrap (d.2 + by_)) :: r else d :: addD p by_ r
theorem mget_dE_none {p : List Nm} : ∀ {ds : List Dl}, (∀ d ∈ ds, pathB d.1 ≠ pathB p) → mget (pkey p) (dE ds) = none := by
  intro ds h
  refine mget_none fun e he => ?_
  obtain ⟨d, hd, rfl⟩ := List.mem_map.1 he
  exact fun e => h d hd (pkey_inj.1 e)
theorem dE_keys (ds : List Dl) : (dE ds).map (·.1) = ds.map fun d => pkey d.1 := by simp [dE, Function.comp_def]
theorem mget_setE {key : Value} {es : List (Value × Bool × List Cell)} {i : Nat} {cs : List Cell} {c : Cell} (hn : (es.map (·.1)).Nodup) (h : es[i]? = some (key, false, cs)) : mget key (setE es i c) = some (false, [c]) := by
  rw [setE_set c h]
  have hl := (List.getElem?_eq_some_iff.1 h).1
  refine mget_at (j := i) (e := (key, false, [c])) ?_ ?_ rfl
  · have := setE_keys es i c
    rw [setE_set c h] at this
    rw [this]; exact hn
  · rw [List.getElem?_set_self hl]
theorem setE_setE : ∀ (es : List (Value × Bool × List Cell)) (i : Nat) (c d : Cell), setE (setE es i c) i d = setE es i d
  | [], _, _, _ => rfl
  | e :: r, 0, c, d => rfl
  | e :: r, i + 1, c, d => by simp [setE, setE_setE r i c d]
theorem addD_none {p : List Nm} {by_ : Int} : ∀ {ds : List Dl}, (∀ d ∈ ds, pathB d.1 ≠ pathB p) → addD p by_ ds = ds ++ [(p, by_)]
  | [], _ => rfl
  | d :: r, h => by
    have := addD_none (by_ := by_) (ds := r) fun x hx => h x (List.mem_cons_of_mem _ hx)
    simp [addD, h d (by simp), this]
theorem addD_at {p : List Nm} {by_ : Int} : ∀ {ds : List Dl} {i : Nat} {d : Dl}, (ds.map fun d => pkey d.1).Nodup → ds[i]? = some d → pathB d.1 = pathB p → dE (addD p by_ ds) = setE (dE ds) i (.obox 86 (dlA (d.1, IntKind.i64.wrap (d.2 + by_))))
  | x :: r, 0, d, _, h, hp => by simp at h; subst h; simp [addD, hp, dE, setE]
  | x :: r, i + 1, d, hn, h, hp => by
    simp only [List.map_cons, List.nodup_cons] at hn
    have hne : pathB x.1 ≠ pathB p := by
      intro e
      refine hn.1 (List.mem_map.2 ⟨d, List.mem_of_getElem? (by simpa using h), ?_⟩)
      rw [pkey_inj, hp, e]
    have := addD_at (by_ := by_) (ds := r) (i := i) hn.2 (by simpa using h) hp
    simp only [addD, if_neg hne]
    simp only [dE, List.map_cons, setE] at this ⊢
    rw [this]
theorem addD_keys {p : List Nm} {by_ : Int} : ∀ {ds : List Dl}, (ds.map fun d => pkey d.1).Nodup → ((addD p by_ ds).map fun d => pkey d.1).Nodup := by
  intro ds hn
  by_cases h : ∃ d ∈ ds, pathB d.1 = pathB p
  · have : ∀ {ds : List Dl}, (∃ d ∈ ds, pathB d.1 = pathB p) → (addD p by_ ds).map (fun d => pkey d.1) = ds.map fun d => pkey d.1 := by
      intro ds
      induction ds with
      | nil => rintro ⟨d, hd, _⟩; simp at hd
      | cons x r ih =>
        rintro ⟨d, hd, he⟩
        simp only [addD]
        split
        · rfl
        · rename_i hx
          have : ∃ d ∈ r, pathB d.1 = pathB p := by
            rcases List.mem_cons.1 hd with rfl | hd
            · exact absurd he hx
            · exact ⟨d, hd, he⟩
          simp [ih this]
    rw [this h]; exact hn
  · have h' : ∀ d ∈ ds, pathB d.1 ≠ pathB p := fun d hd e => h ⟨d, hd, e⟩
    rw [addD_none h', List.map_append]
    refine List.nodup_append.2 ⟨hn, by simp, fun x hx y hy => ?_⟩
    simp at hy; subst hy
    obtain ⟨d, hd, rfl⟩ := List.mem_map.1 hx
    exact fun e => h' d hd (pkey_inj.1 e)
mutual
def Shp.addS (by_ : Int) : Shp → List Nm → List Dl → List Dl
  | .mk s o ks, above, ds => addsS by_ ks (above ++ [(s, o)]) (addD (above ++ [(s, o)]) by_ ds)
def addsS (by_ : Int) : List Shp → List Nm → List Dl → List Dl
  | [], _, ds => ds
  | x :: r, path, ds => addsS by_ r path (x.addS by_ path ds)
end
mutual
def Shp.tw : Shp → Nat
  | .mk s o ks => 32 + s.size + o.size + tws ks
def tws : List Shp → Nat
  | [] => 0
  | x :: r => x.tw + tws r
end
theorem tws_mem : ∀ {l : List Shp} {x : Shp}, x ∈ l → x.tw ≤ tws l
  | y :: r, x, h => by
    rcases List.mem_cons.1 h with rfl | h
    · simp [tws]
    · have := tws_mem h; simp only [tws]; omega
theorem tws_len : ∀ l : List Shp, l.length ≤ tws l
  | [] => by simp [tws]
  | .mk s o ks :: r => by have := tws_len r; simp only [tws, Shp.tw, List.length_cons]; omega
theorem pathW_len : ∀ l : List Nm, 32 * l.length ≤ pathW l
  | [] => by simp
  | n :: r => by have := pathW_len r; simp only [pathW, List.length_cons]; omega
mutual
theorem addS_keys (by_ : Int) : ∀ (x : Shp) (above : List Nm) (ds : List Dl), (ds.map fun d => pkey d.1).Nodup → ((x.addS by_ above ds).map fun d => pkey d.1).Nodup
  | .mk s o ks, above, ds, h => by simp only [Shp.addS]; exact addsS_keys by_ ks _ _ (addD_keys h)
theorem addsS_keys (by_ : Int) : ∀ (l : List Shp) (path : List Nm) (ds : List Dl), (ds.map fun d => pkey d.1).Nodup → ((addsS by_ l path ds).map fun d => pkey d.1).Nodup
  | [], _, _, h => h
  | x :: r, path, ds, h => by simp only [addsS]; exact addsS_keys by_ r _ _ (addS_keys by_ x _ _ h)
end
theorem addsS_app (by_ : Int) : ∀ (l m : List Shp) (path : List Nm) (ds : List Dl), addsS by_ (l ++ m) path ds = addsS by_ m path (addsS by_ l path ds)
  | [], _, _, _ => rfl
  | x :: r, m, path, ds => by simp [addsS, addsS_app by_ r m]
def AddC (by_ : Int) (x : Shp) : Prop := ∀ (above : List Nm) (ds : List Dl), (ds.map fun d => pkey d.1).Nodup → pathW above + x.tw ≤ 140737488355328 →
  GCall Tryz.prog 56 1 (St.g [.c (.mp 0), shT x, .c (.im (.sl 88 (above.map nmA))), ft (.int .i64 by_)] [(0, .map 9 (dE ds))] 1) (St.r (.t []) [(0, .map 9 (dE (x.addS by_ above ds)))] 1)
theorem add_c (by_ : Int) (hby : IntKind.i64.wrap (0 + by_) = by_) (s o : ByteArray) (ks : List Shp) (ih : ∀ x ∈ ks, AddC by_ x) : AddC by_ (.mk s o ks) := by
  intro above ds hn hW
  simp only [Shp.tw] at hW
  have hpl := pathW_len above
  have hpw : pathW (above ++ [(s, o)]) ≤ 140737488355328 := by rw [pathW_app]; simp only [pathW]; omega
  have ck := pathKey_c (above ++ [(s, o)]) hpw
  simp only [List.map_append, List.map_cons, List.map_nil, nmA] at ck
  have hkl := pathB_len (above ++ [(s, o)]) (by omega)
  have hko : KeyOk Tryz.prog 9 (.string ⟨(pathB (above ++ [(s, o)])).toArray⟩) := ⟨_, _root_.Go.WideMaps.keyOf_string_mk tU9 (by rw [maxLen_is]; show (pathB _).toArray.size ≤ _; simp only [List.size_toArray]; omega)⟩
  simp only [shT_mk]
  refine GCall.introG (nt := 55) (rs := []) Tryz.func56 rfl ⟨by kernel_rfl, by kernel_rfl, by kernel_rfl⟩ (by simp) ?_
  rintro ⟨P, w0, ok0, may, np, pblk⟩ rfl rfl
  simp only [go_sem]
  repeat' (first | ((show W _ _ _ _); first | refine W.seq fun K hK => ?_ | refine W.block ?_ | ((first | refine wR ?_ | refine wD ?_ | refine W.skip ?_ | refine W.exit ?_ | refine W.ret (Post.ret ?_)); simp only [go_sem, reduceCtorEq]) | refine wT ?_ | refine wF ?_ | refine wC (fun h => ?_) (fun h => ?_)) | ((show AX _ _ _ _ _); (first | refine aP ?_ | refine aF ?_ | refine aL ?_ | refine aU ?_ | refine aM ?_ | refine aN ?_ | refine aR ?_ | refine aS ?_ | refine aH ?_ | refine aI ?_ | refine aB ?_ | refine aZ ?_); simp only [go_sem, reduceCtorEq]) | refine iK ?_ | refine aI2 ?_ | (refine hK _ ?_; clear hK K) | clear hK K)
  refine AX.gcall [] rfl rfl (clone_c above) (by simp only [go_sem, reduceCtorEq, imR_sn2]) (by simp only [go_sem, reduceCtorEq, imR_sn2]) rfl rfl (by simp only [go_sem, Obj.owns]) rfl (by simp only [go_sem, Obj.owns]) rfl rfl ?_
  simp only [go_sem, reduceCtorEq, imR_sn2]
  repeat' (first | ((show W _ _ _ _); first | refine W.stop (id := 3) ?_ | refine W.seq fun K hK => ?_ | refine W.block ?_ | ((first | refine wR ?_ | refine wD ?_ | refine W.skip ?_ | refine W.exit ?_ | refine W.ret (Post.ret ?_)); simp only [go_sem, reduceCtorEq, imR_sn2]) | refine wT ?_ | refine wF ?_ | refine wC (fun h => ?_) (fun h => ?_)) | ((show AX _ _ _ _ _); (first | refine aP ?_ | refine aF ?_ | refine aL ?_ | refine aU (hnn := by simp only [go_sem, reduceCtorEq, imR_sn2]) ?_ | refine aM ?_ | refine aN ?_ | refine aR ?_ | refine aS (hb := by simp only [go_sem, reduceCtorEq, imR_sn2]; first | omega | (simp; omega)) ?_ | refine aH ?_ | refine aI ?_ | refine aB ?_ | refine aZ ?_); simp only [go_sem, reduceCtorEq, imR_sn2]) | refine iK ?_ | refine aI2 ?_ | (refine hK _ ?_; clear hK K) | clear hK K)
  refine Stop.out ?_
  have hpath : above.map nmA ++ [[AV.flat (.string s), AV.flat (.string o)]] = (above ++ [(s, o)]).map nmA := by simp [nmA]
  refine W.fits (s' := { t := [(0, .c (.mp 0)), (3, ft (.int .i64 by_)), (5, .c (.ptr 1 0)), (8, .c (.im (.sl 88 ((above ++ [(s, o)]).map nmA)))), (9, ft (.string ⟨(pathB (above ++ [(s, o)])).toArray⟩))], h := [(0, .map 9 (dE ds)), (1, .box 41 [fl (.string s), fl (.string o), .im (.sl 41 (avs ks))])], nx := 2, ex := [], nt := 55 }) (Fits.freeze 10 rfl (unim_im _) ?_) ?_
  · simp only [go_sem]
    refine Fits.seeT 8 10 rfl (.inl rfl) rfl ?_
    refine Fits.fit [(0, 0), (1, 1)] [0, 3, 5, 8, 9] 2 rfl rfl ?_
    simp only [go_sem, hpath, rnEs_dE]
    exact Fits.rfl
  have hWx : ∀ x ∈ ks, pathW (above ++ [(s, o)]) + x.tw ≤ 140737488355328 := fun x hx => by
    have := tws_mem hx
    rw [pathW_app]; simp only [pathW]; omega
  have hS : (Shp.mk s o ks).addS by_ above ds = addsS by_ ks (above ++ [(s, o)]) (addD (above ++ [(s, o)]) by_ ds) := by simp only [Shp.addS]
  have hkn : ks.length ≤ 140737488355328 := by have := tws_len ks; omega
  clear hpath ck hW hpl
  generalize above ++ [(s, o)] = p at hpw hkl hko hWx hS ⊢
  have hpk : Value.string ⟨(pathB p).toArray⟩ = pkey p := rfl
  by_cases hex : ∃ d ∈ ds, pathB d.1 = pathB p
  · obtain ⟨d, hdm, hdp⟩ := hex
    obtain ⟨i, hdi⟩ := List.getElem?_of_mem hdm
    have hei : (dE ds)[i]? = some (pkey p, false, [.obox 86 (dlA d)]) := by
      simp only [dE, List.getElem?_map, hdi, Option.map_some]
      rw [pkey_inj.2 hdp]
    have hget : mget (Value.string ⟨(pathB p).toArray⟩) (setE (dE ds) i (.ptr 2 0)) = some (false, [.ptr 2 0]) := mget_setE (by rw [dE_keys]; exact hn) hei
    refine W.fits (s' := { t := [(0, .c (.mp 0)), (3, ft (.int .i64 by_)), (5, .c (.ptr 1 0)), (8, .c (.im (.sl 88 (p.map nmA)))), (9, ft (.string ⟨(pathB p).toArray⟩))], h := [(0, .map 9 (setE (dE ds) i (.ptr 2 0))), (1, .box 41 [fl (.string s), fl (.string o), .im (.sl 41 (avs ks))]), (2, .box 86 [.im (.sl 88 (d.1.map nmA)), fl (.int .i64 d.2)])], nx := 3, ex := [], nt := 55 })
      (Fits.unf 0 i 0 2 (c := .obox 86 (dlA d)) rfl rfl (by simp only [Obj.slot, hei]) rfl rfl ?_) ?_
    · simp only [go_sem]
      refine Fits.fit [(0, 0), (1, 1), (2, 2)] [0, 3, 5, 8, 9] 3 rfl rfl ?_
      simp only [go_sem, dlA, imL, rnEs_dE]
      exact Fits.rfl
    repeat' (first | ((show W _ _ _ _); first | refine W.stop (id := 6) ?_ | refine W.seq fun K hK => ?_ | refine W.block ?_ | ((first | refine wR ?_ | refine wD ?_ | refine W.skip ?_ | refine W.exit ?_ | refine W.ret (Post.ret ?_)); simp only [go_sem, reduceCtorEq, hget]) | refine wT ?_ | refine wF ?_ | refine wC (fun h => ?_) (fun h => ?_)) | ((show AX _ _ _ _ _); (first | refine aP ?_ | refine aF ?_ | refine aL ?_ | refine aU (hnn := by simp only [go_sem, reduceCtorEq, hget]) ?_ | refine aM ?_ | refine aN ?_ | refine aR ?_ | refine aS (hb := by simp only [go_sem, reduceCtorEq, hget]; first | omega | (simp; omega)) ?_ | refine aH ?_ | refine aI ?_ | refine aB ?_ | refine aZ ?_); simp only [go_sem, reduceCtorEq, hget]) | refine iK ?_ | refine aI2 ?_ | (refine hK _ ?_; clear hK K) | clear hK K)
    refine Stop.out ?_
    refine W.fits (s' := { t := [(0, .c (.mp 0)), (3, ft (.int .i64 by_)), (5, .c (.ptr 1 0)), (8, .c (.im (.sl 88 (p.map nmA))))], h := [(0, .map 9 (dE (addD p by_ ds))), (1, .box 41 [fl (.string s), fl (.string o), .im (.sl 41 (avs ks))])], nx := 2, ex := [], nt := 55 }) ?_ ?_
    · refine Fits.fold 0 i 0 2 (.obox 86 (dlA (d.1, IntKind.i64.wrap (d.2 + by_)))) rfl rfl rfl (by simp only [Obj.slot, setE_set _ hei, List.getElem?_set_self (List.getElem?_eq_some_iff.1 hei).1]; rfl) (by decide) ?_
      simp only [go_sem, setE_setE, ← addD_at hn hdi hdp]
      refine Fits.fit [(0, 0), (1, 1)] [0, 3, 5, 8] 2 rfl rfl ?_
      simp only [go_sem, rnEs_dE]
      exact Fits.rfl
    repeat' (first | ((show W _ _ _ _); first | refine W.seq fun K hK => ?_ | refine W.block ?_ | ((first | refine wR ?_ | refine wD ?_ | refine W.skip ?_ | refine W.exit ?_ | refine W.ret (Post.ret ?_)); simp only [go_sem, reduceCtorEq, avs_len]) | refine wT ?_ | refine wF ?_ | refine wC (fun h => ?_) (fun h => ?_)) | ((show AX _ _ _ _ _); (first | refine aP ?_ | refine aF ?_ | refine aL ?_ | refine aU (hnn := by simp only [go_sem, reduceCtorEq, avs_len]) ?_ | refine aM ?_ | refine aN ?_ | refine aR ?_ | refine aS (hb := by simp only [go_sem, reduceCtorEq, avs_len]; first | omega | (simp; omega)) ?_ | refine aH ?_ | refine aI ?_ | refine aB ?_ | refine aZ ?_); simp only [go_sem, reduceCtorEq, avs_len]) | refine iK ?_ | refine aI2 ?_ | (refine hK _ ?_; clear hK K) | clear hK K)
    refine W.loopF (T := fun j : Nat => { t := [(0, .c (.mp 0)), (3, ft (.int .i64 by_)), (8, .c (.im (.sl 88 (p.map nmA)))), (43, .c (.im (.sl 41 (avs ks)))), (44, ft (.int .i64 ks.length)), (45, ft (.int .i64 (j : Nat)))], h := [(0, .map 9 (dE (addsS by_ (ks.take j) p (addD p by_ ds))))], nx := 1, ex := [], nt := 55 })
      (Inv := fun i => i ≤ ks.length) (μ := fun i => ks.length - i) (x0 := 0) (Fits.fit [(0, 0)] [0, 3, 8, 43, 44, 45] 1 rfl rfl ?_) (Nat.zero_le _) ?_
    · simp only [go_sem, rnEs_dE, addsS]
      exact Fits.rfl
    intro j hi KL hKL
    by_cases hlt : j < ks.length
    · obtain ⟨⟨s', o', ks'⟩, hx, hm, hd⟩ := drop_at hlt
      have e1 : decide ((j : Int) < ks.length) = true := by simp; omega
      have hw := w64s j (by omega)
      have hc := ih _ hm p (addsS by_ (ks.take j) p (addD p by_ ds)) (addsS_keys by_ _ _ _ (addD_keys hn)) (hWx _ hm)
      simp only [shT_mk] at hc
      repeat' (first | ((show W _ _ _ _); first | refine W.seq fun K hK => ?_ | refine W.block ?_ | ((first | refine wR ?_ | refine wD ?_ | refine W.skip ?_ | refine W.exit ?_ | refine W.ret (Post.ret ?_)); simp only [go_sem, reduceCtorEq, e1, hw, avs_get, hx, Shp.av]) | refine wT ?_ | refine wF ?_ | refine wC (fun h => ?_) (fun h => ?_)) | ((show AX _ _ _ _ _); (first | refine aP ?_ | refine aF ?_ | refine aL ?_ | refine aU (hnn := by simp only [go_sem, reduceCtorEq, e1, hw, avs_get, hx, Shp.av]) ?_ | refine aM ?_ | refine aN ?_ | refine aR ?_ | refine aS (hb := by simp only [go_sem, reduceCtorEq, e1, hw, avs_get, hx, Shp.av]; first | omega | (simp; omega)) ?_ | refine aH ?_ | refine aI ?_ | refine aB ?_ | refine aZ ?_); simp only [go_sem, reduceCtorEq, e1, hw, avs_get, hx, Shp.av]) | refine iK ?_ | refine aI2 ?_ | (refine hK _ ?_; clear hK K) | clear hK K)
      refine AX.gcall [0] rfl rfl (hc) (by simp only [go_sem, reduceCtorEq, rnEs_dE]) (by simp only [go_sem, reduceCtorEq, rnEs_dE]) rfl rfl (by simp only [go_sem, Obj.owns]) rfl (by simp only [go_sem, Obj.owns]) rfl rfl ?_
      simp only [go_sem, reduceCtorEq, rnEs_dE]
      repeat' (first | ((show W _ _ _ _); first | refine W.seq fun K hK => ?_ | refine W.block ?_ | ((first | refine wR ?_ | refine wD ?_ | refine W.skip ?_ | refine W.exit ?_ | refine W.ret (Post.ret ?_)); simp only [go_sem, reduceCtorEq, hw]) | refine wT ?_ | refine wF ?_ | refine wC (fun h => ?_) (fun h => ?_)) | ((show AX _ _ _ _ _); (first | refine aP ?_ | refine aF ?_ | refine aL ?_ | refine aU (hnn := by simp only [go_sem, reduceCtorEq, hw]) ?_ | refine aM ?_ | refine aN ?_ | refine aR ?_ | refine aS (hb := by simp only [go_sem, reduceCtorEq, hw]; first | omega | (simp; omega)) ?_ | refine aH ?_ | refine aI ?_ | refine aB ?_ | refine aZ ?_); simp only [go_sem, reduceCtorEq, hw]) | refine iK ?_ | refine aI2 ?_ | (refine hK _ ?_; clear hK K) | clear hK K)
      refine hKL.to (j + 1) (by omega) (by omega) (Fits.fit [(0, 0)] [0, 3, 8, 43, 44, 45] 1 rfl rfl ?_)
      simp only [go_sem, take_at hx, addsS_app, addsS, rnEs_dE]
      exact Fits.rfl
    · have e1 : decide ((j : Int) < ks.length) = false := by simp; omega
      obtain rfl : j = ks.length := by omega
      clear hKL
      repeat' (first | ((show W _ _ _ _); first | refine W.seq fun K hK => ?_ | refine W.block ?_ | ((first | refine wR ?_ | refine wD ?_ | refine W.skip ?_ | refine W.exit ?_ | refine W.ret (Post.ret ?_)); simp only [go_sem, reduceCtorEq, e1]) | refine wT ?_ | refine wF ?_ | refine wC (fun h => ?_) (fun h => ?_)) | ((show AX _ _ _ _ _); (first | refine aP ?_ | refine aF ?_ | refine aL ?_ | refine aU (hnn := by simp only [go_sem, reduceCtorEq, e1]) ?_ | refine aM ?_ | refine aN ?_ | refine aR ?_ | refine aS (hb := by simp only [go_sem, reduceCtorEq, e1]; first | omega | (simp; omega)) ?_ | refine aH ?_ | refine aI ?_ | refine aB ?_ | refine aZ ?_); simp only [go_sem, reduceCtorEq, e1]) | refine iK ?_ | refine aI2 ?_ | (refine hK _ ?_; clear hK K) | clear hK K)
      refine PostG.normal (Fits.fit [(0, 0)] [] 1 rfl rfl Fits.rfl) rfl rfl ?_
      simp only [St.r, go_sem, List.take_length, rnEs_dE, hS]
  · have hno : ∀ d ∈ ds, pathB d.1 ≠ pathB p := fun d hd e => hex ⟨d, hd, e⟩
    have hget0 : mget (Value.string ⟨(pathB p).toArray⟩) (dE ds) = none := mget_dE_none hno
    have hne : ∀ e ∈ dE ds, e.1 ≠ Value.string ⟨(pathB p).toArray⟩ := fun e he => by
      obtain ⟨d, hd, rfl⟩ := List.mem_map.1 he
      exact fun e => hno d hd (pkey_inj.1 e)
    have hput : ∀ y, mput (Value.string ⟨(pathB p).toArray⟩) y (dE ds) = dE ds ++ [(Value.string ⟨(pathB p).toArray⟩, y)] := fun y => mput_none hne
    have hget1 : ∀ y, mget (Value.string ⟨(pathB p).toArray⟩) (dE ds ++ [(Value.string ⟨(pathB p).toArray⟩, y)]) = some y := fun y => by
      have : ∀ l : List (Value × Bool × List Cell), (∀ e ∈ l, e.1 ≠ Value.string ⟨(pathB p).toArray⟩) → mget (Value.string ⟨(pathB p).toArray⟩) (l ++ [(Value.string ⟨(pathB p).toArray⟩, y)]) = some y := by
        intro l
        induction l with
        | nil => intro _; simp [mget]
        | cons e l ih => intro h; simp only [List.cons_append, mget]; rw [if_neg (h e (by simp)), ih fun x hx => h x (by simp [hx])]
      exact this _ hne
    have hadd : addD p (by_) ds = ds ++ [(p, by_)] := addD_none hno
    have hset : setE (dE ds ++ [(Value.string ⟨(pathB p).toArray⟩, (false, [Cell.ptr 10 0]))]) ds.length (.obox 86 (dlA (p, IntKind.i64.wrap (0 + by_)))) = dE (addD p by_ ds) := by
      rw [hadd, hby]
      have : ∀ (l : List Dl), setE (dE l ++ [(Value.string ⟨(pathB p).toArray⟩, (false, [Cell.ptr 10 0]))]) l.length (.obox 86 (dlA (p, by_))) = dE (l ++ [(p, by_)]) := by
        intro l
        induction l with
        | nil => rfl
        | cons d l ih => simp only [dE, List.map_cons, List.cons_append, List.length_cons, setE] at ih ⊢; rw [ih]
      exact this ds
    repeat' (first | ((show W _ _ _ _); first | refine W.stop (id := 6) ?_ | refine W.seq fun K hK => ?_ | refine W.block ?_ | ((first | refine wR ?_ | refine wD ?_ | refine W.skip ?_ | refine W.exit ?_ | refine W.ret (Post.ret ?_)); simp only [go_sem, reduceCtorEq, hget0, hput, hget1]) | refine wT ?_ | refine wF ?_ | refine wC (fun h => ?_) (fun h => ?_)) | ((show AX _ _ _ _ _); (first | refine aP ?_ | refine aF ?_ | refine aL ?_ | refine aU (hnn := by simp only [go_sem, reduceCtorEq, hget0, hput, hget1]) ?_ | refine aM ?_ | refine aN ?_ | refine aR ?_ | refine aS (hb := by simp only [go_sem, reduceCtorEq, hget0, hput, hget1]; first | omega | (simp; omega)) ?_ | refine aH ?_ | refine aI ?_ | refine aB ?_ | refine aZ ?_); simp only [go_sem, reduceCtorEq, hget0, hput, hget1]) | refine iK ?_ | refine aI2 ?_ | (refine hK _ ?_; clear hK K) | clear hK K)
    refine Stop.out ?_
    refine W.fits (s' := { t := [(0, .c (.mp 0)), (3, ft (.int .i64 by_)), (5, .c (.ptr 1 0)), (8, .c (.im (.sl 88 (p.map nmA))))], h := [(0, .map 9 (dE (addD p by_ ds))), (1, .box 41 [fl (.string s), fl (.string o), .im (.sl 41 (avs ks))])], nx := 2, ex := [], nt := 55 }) ?_ ?_
    · refine Fits.fold 0 ds.length 0 10 (.obox 86 (dlA (p, IntKind.i64.wrap (0 + by_)))) rfl rfl rfl (by simp [Obj.slot, dE, refCell]) (by decide) ?_
      simp only [go_sem, hset]
      refine Fits.fit [(0, 0), (1, 1)] [0, 3, 5, 8] 2 rfl rfl ?_
      simp only [go_sem, rnEs_dE]
      exact Fits.rfl
    repeat' (first | ((show W _ _ _ _); first | refine W.seq fun K hK => ?_ | refine W.block ?_ | ((first | refine wR ?_ | refine wD ?_ | refine W.skip ?_ | refine W.exit ?_ | refine W.ret (Post.ret ?_)); simp only [go_sem, reduceCtorEq, avs_len]) | refine wT ?_ | refine wF ?_ | refine wC (fun h => ?_) (fun h => ?_)) | ((show AX _ _ _ _ _); (first | refine aP ?_ | refine aF ?_ | refine aL ?_ | refine aU (hnn := by simp only [go_sem, reduceCtorEq, avs_len]) ?_ | refine aM ?_ | refine aN ?_ | refine aR ?_ | refine aS (hb := by simp only [go_sem, reduceCtorEq, avs_len]; first | omega | (simp; omega)) ?_ | refine aH ?_ | refine aI ?_ | refine aB ?_ | refine aZ ?_); simp only [go_sem, reduceCtorEq, avs_len]) | refine iK ?_ | refine aI2 ?_ | (refine hK _ ?_; clear hK K) | clear hK K)
    refine W.loopF (T := fun j : Nat => { t := [(0, .c (.mp 0)), (3, ft (.int .i64 by_)), (8, .c (.im (.sl 88 (p.map nmA)))), (43, .c (.im (.sl 41 (avs ks)))), (44, ft (.int .i64 ks.length)), (45, ft (.int .i64 (j : Nat)))], h := [(0, .map 9 (dE (addsS by_ (ks.take j) p (addD p by_ ds))))], nx := 1, ex := [], nt := 55 })
      (Inv := fun i => i ≤ ks.length) (μ := fun i => ks.length - i) (x0 := 0) (Fits.fit [(0, 0)] [0, 3, 8, 43, 44, 45] 1 rfl rfl ?_) (Nat.zero_le _) ?_
    · simp only [go_sem, rnEs_dE, addsS]
      exact Fits.rfl
    intro j hi KL hKL
    by_cases hlt : j < ks.length
    · obtain ⟨⟨s', o', ks'⟩, hx, hm, hd⟩ := drop_at hlt
      have e1 : decide ((j : Int) < ks.length) = true := by simp; omega
      have hw := w64s j (by omega)
      have hc := ih _ hm p (addsS by_ (ks.take j) p (addD p by_ ds)) (addsS_keys by_ _ _ _ (addD_keys hn)) (hWx _ hm)
      simp only [shT_mk] at hc
      repeat' (first | ((show W _ _ _ _); first | refine W.seq fun K hK => ?_ | refine W.block ?_ | ((first | refine wR ?_ | refine wD ?_ | refine W.skip ?_ | refine W.exit ?_ | refine W.ret (Post.ret ?_)); simp only [go_sem, reduceCtorEq, e1, hw, avs_get, hx, Shp.av]) | refine wT ?_ | refine wF ?_ | refine wC (fun h => ?_) (fun h => ?_)) | ((show AX _ _ _ _ _); (first | refine aP ?_ | refine aF ?_ | refine aL ?_ | refine aU (hnn := by simp only [go_sem, reduceCtorEq, e1, hw, avs_get, hx, Shp.av]) ?_ | refine aM ?_ | refine aN ?_ | refine aR ?_ | refine aS (hb := by simp only [go_sem, reduceCtorEq, e1, hw, avs_get, hx, Shp.av]; first | omega | (simp; omega)) ?_ | refine aH ?_ | refine aI ?_ | refine aB ?_ | refine aZ ?_); simp only [go_sem, reduceCtorEq, e1, hw, avs_get, hx, Shp.av]) | refine iK ?_ | refine aI2 ?_ | (refine hK _ ?_; clear hK K) | clear hK K)
      refine AX.gcall [0] rfl rfl (hc) (by simp only [go_sem, reduceCtorEq, rnEs_dE]) (by simp only [go_sem, reduceCtorEq, rnEs_dE]) rfl rfl (by simp only [go_sem, Obj.owns]) rfl (by simp only [go_sem, Obj.owns]) rfl rfl ?_
      simp only [go_sem, reduceCtorEq, rnEs_dE]
      repeat' (first | ((show W _ _ _ _); first | refine W.seq fun K hK => ?_ | refine W.block ?_ | ((first | refine wR ?_ | refine wD ?_ | refine W.skip ?_ | refine W.exit ?_ | refine W.ret (Post.ret ?_)); simp only [go_sem, reduceCtorEq, hw]) | refine wT ?_ | refine wF ?_ | refine wC (fun h => ?_) (fun h => ?_)) | ((show AX _ _ _ _ _); (first | refine aP ?_ | refine aF ?_ | refine aL ?_ | refine aU (hnn := by simp only [go_sem, reduceCtorEq, hw]) ?_ | refine aM ?_ | refine aN ?_ | refine aR ?_ | refine aS (hb := by simp only [go_sem, reduceCtorEq, hw]; first | omega | (simp; omega)) ?_ | refine aH ?_ | refine aI ?_ | refine aB ?_ | refine aZ ?_); simp only [go_sem, reduceCtorEq, hw]) | refine iK ?_ | refine aI2 ?_ | (refine hK _ ?_; clear hK K) | clear hK K)
      refine hKL.to (j + 1) (by omega) (by omega) (Fits.fit [(0, 0)] [0, 3, 8, 43, 44, 45] 1 rfl rfl ?_)
      simp only [go_sem, take_at hx, addsS_app, addsS, rnEs_dE]
      exact Fits.rfl
    · have e1 : decide ((j : Int) < ks.length) = false := by simp; omega
      obtain rfl : j = ks.length := by omega
      clear hKL
      repeat' (first | ((show W _ _ _ _); first | refine W.seq fun K hK => ?_ | refine W.block ?_ | ((first | refine wR ?_ | refine wD ?_ | refine W.skip ?_ | refine W.exit ?_ | refine W.ret (Post.ret ?_)); simp only [go_sem, reduceCtorEq, e1]) | refine wT ?_ | refine wF ?_ | refine wC (fun h => ?_) (fun h => ?_)) | ((show AX _ _ _ _ _); (first | refine aP ?_ | refine aF ?_ | refine aL ?_ | refine aU (hnn := by simp only [go_sem, reduceCtorEq, e1]) ?_ | refine aM ?_ | refine aN ?_ | refine aR ?_ | refine aS (hb := by simp only [go_sem, reduceCtorEq, e1]; first | omega | (simp; omega)) ?_ | refine aH ?_ | refine aI ?_ | refine aB ?_ | refine aZ ?_); simp only [go_sem, reduceCtorEq, e1]) | refine iK ?_ | refine aI2 ?_ | (refine hK _ ?_; clear hK K) | clear hK K)
      refine PostG.normal (Fits.fit [(0, 0)] [] 1 rfl rfl Fits.rfl) rfl rfl ?_
      simp only [St.r, go_sem, List.take_length, rnEs_dE, hS]
theorem add_all (by_ : Int) (hby : IntKind.i64.wrap (0 + by_) = by_) : ∀ x : Shp, AddC by_ x
  | .mk s o ks => add_c by_ hby s o ks fun x hx => add_all by_ hby x
termination_by x => SizeOf.sizeOf x
decreasing_by
  have := List.sizeOf_lt_of_mem hx
  simp only [Shp.mk.sizeOf_spec]
  omega
end Go.Proofs.YtegcmciglakicaaGreat
namespace Go.Proofs.YtegcmciglakicaaGreat
open Go.RowKit Go.Exe
set_option linter.unusedVariables false
set_option linter.unusedSimpArgs false
set_option maxHeartbeats 1000000
set_option maxRecDepth 100000
attribute [local irreducible] W AX Run RunD AStep AOp AOpX AStB AStH AStG Fits PCall GCall PostG Post Stop

instance : Inhabited Dl := ⟨([], 0)⟩
def dA (ds : List Dl) : List (Value × Bool × List AV) := ds.map fun d => (pkey d.1, false, [.pt (dlA d)])
theorem dE_close (ds : List Dl) : closeE (dE ds) = some (dA ds) := closeE_map _ _ (fun x => ⟨rfl, rfl, by simp [closeL, closeC]⟩) ds
def selD (ds : List Dl) (seen : List Nat) : List Dl := (seen.map fun j => ds.getD j default).filter fun d => d.2 != 0
theorem selD_add {ds : List Dl} {seen : List Nat} {j : Nat} {d : Dl} (h : ds[j]? = some d) (hd : d.2 ≠ 0) : selD ds (seen ++ [j]) = selD ds seen ++ [d] := by
  simp [selD, List.getD_eq_getElem?_getD, h, hd]
theorem selD_skip {ds : List Dl} {seen : List Nat} {j : Nat} {d : Dl} (h : ds[j]? = some d) (hd : d.2 = 0) : selD ds (seen ++ [j]) = selD ds seen := by
  simp [selD, List.getD_eq_getElem?_getD, h, hd]
theorem seen_perm {n : Nat} {seen : List Nat} (hn : seen.Nodup) (hb : ∀ j ∈ seen, j < n) (ha : ∀ j, j < n → j ∈ seen) : seen.Perm (List.range n) :=
  (List.perm_ext_iff_of_nodup hn List.nodup_range).2 fun j => by rw [List.mem_range]; exact ⟨hb j, ha j⟩
theorem range_getD (ds : List Dl) : (List.range ds.length).map (fun j => ds.getD j default) = ds := by
  apply List.ext_getElem?
  intro i
  rw [List.getElem?_map]
  by_cases h : i < ds.length
  · rw [List.getElem?_range h]; simp [List.getD_eq_getElem?_getD, h]
  · rw [List.getElem?_eq_none (by simpa using h), List.getElem?_eq_none (by simpa using h)]; rfl
theorem seen_le : ∀ {n : Nat} {seen : List Nat}, seen.Nodup → (∀ j ∈ seen, j < n) → seen.length ≤ n
  | 0, seen, _, hb => by
    cases seen with
    | nil => simp
    | cons x l => exact absurd (hb x (by simp)) (by omega)
  | n + 1, seen, hn, hb => by
    have := seen_le (n := n) (hn.erase n) fun j hj => by
      have := (hn.mem_erase_iff).1 hj
      have := hb j this.2
      omega
    rw [List.length_erase] at this
    split at this <;> omega
theorem selD_perm {ds : List Dl} {seen : List Nat} (hn : seen.Nodup) (hb : ∀ j ∈ seen, j < ds.length) (ha : ∀ j, j < ds.length → j ∈ seen) : (selD ds seen).Perm (ds.filter fun d => d.2 != 0) := by
  have := ((seen_perm hn hb ha).map fun j => ds.getD j default).filter fun d => d.2 != 0
  rw [range_getD] at this
  exact this
theorem list_c (c55 : SortC Tryz.prog 89 2) (cOr : ∀ l : List Int, PCall Tryz.prog 52 [.c (.im (.sl 3 (l.map iA)))] (ft (.int .i64 (orL l)))) (ds zs : List Dl) (hlen : ds.length * 32 ≤ 140737488355328)
    (hord : ∀ l : List Dl, l.Perm (ds.filter fun d => d.2 != 0) → OrdOn (fun a b : Dl => cmpPath a.1 b.1) l) (hz : zs.Perm (ds.filter fun d => d.2 != 0)) (huni : ∀ zs' : List Dl, zs'.Perm zs → zs'.Pairwise (fun a b => ¬ cmpPath b.1 a.1 < 0) → zs' = zs) :
    PCall Tryz.prog 57 [.c (.im (.mp 9 (dA ds)))] (.c (.im (.sl 86 (zs.map dlA)))) := by
  have c56 := fun a b : Dl => listCmp_c cOr a b
  refine PCall.intro (nt := 26) (rs := [.tmp 2]) Tryz.func57 rfl ⟨by kernel_rfl, by kernel_rfl, by kernel_rfl⟩ (by simp) ?_
  rintro ⟨P, w0, ok0, may, np, pblk⟩ rfl rfl
  repeat' (first | ((show W _ _ _ _); first | refine W.seq fun K hK => ?_ | refine W.block ?_ | ((first | refine wR ?_ | refine wD ?_ | refine W.skip ?_ | refine W.exit ?_ | refine W.ret (Post.ret ?_)); simp only [go_sem, reduceCtorEq]) | refine wT ?_ | refine wF ?_ | refine wC (fun h => ?_) (fun h => ?_)) | ((show AX _ _ _ _ _); (first | refine aP ?_ | refine aF ?_ | refine aL ?_ | refine aU ?_ | refine aM ?_ | refine aN ?_ | refine aR ?_ | refine aS ?_ | refine aH ?_ | refine aI ?_ | refine aB ?_ | refine aZ ?_); simp only [go_sem, reduceCtorEq]) | refine iK ?_ | refine aI2 ?_ | (refine hK _ ?_; clear hK K) | clear hK K)
  refine W.loopF (T := fun seen : List Nat => { t := [(3, .c (.ref 1)), (7, .c (.ptr 0 0))], h := [(0, .itf 9 (dA ds) seen), (1, .row 86 (imR ((selD ds seen).map dlA)))], nx := 2, ex := [], nt := 26 })
    (Inv := fun seen => seen.Nodup ∧ ∀ j ∈ seen, j < ds.length) (μ := fun seen => ds.length - seen.length) (x0 := []) (Fits.fit [(3, 0)] [3, 7] 1 rfl rfl ?_) ⟨List.nodup_nil, by simp⟩ ?_
  · simp only [go_sem]
    refine Fits.adopt 3 1 86 rfl rfl rfl tE86 rfl ?_
    refine Fits.fit [(0, 0), (1, 1)] [3, 7] 2 rfl rfl ?_
    simp only [go_sem, selD, List.map_nil, List.filter_nil, imR_nil]
    exact Fits.rfl
  rintro seen ⟨hnd, hbd⟩ KL hKL
  repeat' (first | ((show W _ _ _ _); first | refine W.stop (id := 3) ?_ | refine W.seq fun K hK => ?_ | refine W.block ?_ | ((first | refine wR ?_ | refine wD ?_ | refine W.skip ?_ | refine W.exit ?_ | refine W.ret (Post.ret ?_)); simp only [go_sem, reduceCtorEq]) | refine wT ?_ | refine wF ?_ | refine wC (fun h => ?_) (fun h => ?_)) | ((show AX _ _ _ _ _); (first | refine aP ?_ | refine aF ?_ | refine aL ?_ | refine aU ?_ | refine aM ?_ | refine aN ?_ | refine aR ?_ | refine aS ?_ | refine aH ?_ | refine aI ?_ | refine aB ?_ | refine aZ ?_); simp only [go_sem, reduceCtorEq]) | refine iK ?_ | refine aI2 ?_ | (refine hK _ ?_; clear hK K) | clear hK K)
  refine Stop.out ?_
  refine W.nextReg rfl rfl rfl rfl rfl rfl rfl rfl rfl rfl (fun j e he hj => ?_) (fun hall => ?_)
  · simp only [dA, List.getElem?_map, Option.map_eq_some_iff] at he
    obtain ⟨d, hd, rfl⟩ := he
    have hjl := (List.getElem?_eq_some_iff.1 hd).1
    have hn2 : (seen ++ [j]).Nodup := List.nodup_append.2 ⟨hnd, by simp, fun x hx y hy => by simp at hy; subst hy; exact fun e => hj (e ▸ hx)⟩
    have hb2 : ∀ i ∈ seen ++ [j], i < ds.length := fun i hi => by
      rcases List.mem_append.1 hi with h | h
      · exact hbd i h
      · simp at h; omega
    have hsl := seen_le hn2 hb2
    have hsa : (seen ++ [j]).length = seen.length + 1 := by simp
    have hed : (dA ds)[j]? = some (pkey d.1, false, [.pt (dlA d)]) := by simp [dA, hd]
    simp only [go_sem]
    repeat' (first | ((show W _ _ _ _); first | refine W.seq fun K hK => ?_ | refine W.block ?_ | ((first | refine wR ?_ | refine wD ?_ | refine W.skip ?_ | refine W.exit ?_ | refine W.ret (Post.ret ?_)); simp only [go_sem, reduceCtorEq]) | refine wT ?_ | refine wF ?_ | refine wC (fun h => ?_) (fun h => ?_)) | ((show AX _ _ _ _ _); (first | refine aP ?_ | refine aF ?_ | refine aL ?_ | refine aU ?_ | refine aM ?_ | refine aN ?_ | refine aR ?_ | refine aS ?_ | refine aH ?_ | refine aI ?_ | refine aB ?_ | refine aZ ?_); simp only [go_sem, reduceCtorEq]) | refine iK ?_ | refine aI2 ?_ | (refine hK _ ?_; clear hK K) | clear hK K)
    refine AX.entry rfl rfl rfl (j := j) (by simp) hed rfl rfl ?_
    simp only [go_sem, dlA, imL]
    have hsz : (selD ds seen).length ≤ seen.length := by
      have := List.length_filter_le (fun d : Dl => d.2 != 0) (seen.map fun j => ds.getD j default)
      rw [List.length_map] at this
      exact this
    by_cases hd0 : d.2 = 0
    · have e1 : (d.2 != 0) = false := by simp [hd0]
      repeat' (first | ((show W _ _ _ _); first | refine W.seq fun K hK => ?_ | refine W.block ?_ | ((first | refine wR ?_ | refine wD ?_ | refine W.skip ?_ | refine W.exit ?_ | refine W.ret (Post.ret ?_)); simp only [go_sem, reduceCtorEq, e1]) | refine wT ?_ | refine wF ?_ | refine wC (fun h => ?_) (fun h => ?_)) | ((show AX _ _ _ _ _); (first | refine aP ?_ | refine aF ?_ | refine aL ?_ | refine aU (hnn := by simp only [go_sem, reduceCtorEq, e1]) ?_ | refine aM ?_ | refine aN ?_ | refine aR ?_ | refine aS (hb := by simp only [go_sem, reduceCtorEq, e1]; first | omega | (simp; omega)) ?_ | refine aH ?_ | refine aI ?_ | refine aB ?_ | refine aZ ?_); simp only [go_sem, reduceCtorEq, e1]) | refine iK ?_ | refine aI2 ?_ | (refine hK _ ?_; clear hK K) | clear hK K)
      refine hKL.to (seen ++ [j]) ⟨hn2, hb2⟩ (by omega) (Fits.fit [(0, 0), (1, 1)] [3, 7] 2 rfl rfl ?_)
      simp only [go_sem, selD_skip hd hd0]
      exact Fits.rfl
    · have e1 : (d.2 != 0) = true := by simp [hd0]
      repeat' (first | ((show W _ _ _ _); first | refine W.seq fun K hK => ?_ | refine W.block ?_ | ((first | refine wR ?_ | refine wD ?_ | refine W.skip ?_ | refine W.exit ?_ | refine W.ret (Post.ret ?_)); simp only [go_sem, reduceCtorEq, e1, imR_len, List.length_map]) | refine wT ?_ | refine wF ?_ | refine wC (fun h => ?_) (fun h => ?_)) | ((show AX _ _ _ _ _); (first | refine aP ?_ | refine aF ?_ | refine aL ?_ | refine aU (hnn := by simp only [go_sem, reduceCtorEq, e1, imR_len, List.length_map]) ?_ | refine aM ?_ | refine aN ?_ | refine aR ?_ | refine aS (hb := by simp only [go_sem, reduceCtorEq, e1, imR_len, List.length_map]; first | omega | (simp; omega)) ?_ | refine aH ?_ | refine aI ?_ | refine aB ?_ | refine aZ ?_); simp only [go_sem, reduceCtorEq, e1, imR_len, List.length_map]) | refine iK ?_ | refine aI2 ?_ | (refine hK _ ?_; clear hK K) | clear hK K)
      refine hKL.to (seen ++ [j]) ⟨hn2, hb2⟩ (by omega) (Fits.fit [(0, 0), (15, 1)] [3, 7] 2 rfl rfl ?_)
      simp only [go_sem, selD_add hd hd0, imR_sn2, List.map_append, List.map_cons, List.map_nil, dlA]
      exact Fits.rfl
  · simp only [go_sem]
    clear hKL
    have hall : ∀ j, j < ds.length → j ∈ seen := fun j hj => hall j (by simpa [dA] using hj)
    have hp := selD_perm hnd hbd hall
    repeat' (first | ((show W _ _ _ _); first | refine W.seq fun K hK => ?_ | refine W.block ?_ | ((first | refine wR ?_ | refine wD ?_ | refine W.skip ?_ | refine W.exit ?_ | refine W.ret (Post.ret ?_)); simp only [go_sem, reduceCtorEq]) | refine wT ?_ | refine wF ?_ | refine wC (fun h => ?_) (fun h => ?_)) | ((show AX _ _ _ _ _); (first | refine aP ?_ | refine aF ?_ | refine aL ?_ | refine aU ?_ | refine aM ?_ | refine aN ?_ | refine aR ?_ | refine aS ?_ | refine aH ?_ | refine aI ?_ | refine aB ?_ | refine aZ ?_); simp only [go_sem, reduceCtorEq]) | refine iK ?_ | refine aI2 ?_ | (refine hK _ ?_; clear hK K) | clear hK K)
    refine AX.sort (zs := zs) (cm := fun a b : Dl => cmpPath a.1 b.1) dlA rfl rfl rfl rfl rfl rfl tE86 (by decide) c55 (fun x _ y _ => c56 x y) (hord _ hp) (hz.trans hp.symm) (fun zs' h1 h2 => huni zs' (h1.trans (hp.trans hz.symm)) h2) rfl ?_
    simp only [go_sem]
    repeat' (first | ((show W _ _ _ _); first | refine W.seq fun K hK => ?_ | refine W.block ?_ | ((first | refine wR ?_ | refine wD ?_ | refine W.skip ?_ | refine W.exit ?_ | refine W.ret (Post.ret ?_)); simp only [go_sem, reduceCtorEq]) | refine wT ?_ | refine wF ?_ | refine wC (fun h => ?_) (fun h => ?_)) | ((show AX _ _ _ _ _); (first | refine aP ?_ | refine aF ?_ | refine aL ?_ | refine aU ?_ | refine aM ?_ | refine aN ?_ | refine aR ?_ | refine aS ?_ | refine aH ?_ | refine aI ?_ | refine aB ?_ | refine aZ ?_); simp only [go_sem, reduceCtorEq]) | refine iK ?_ | refine aI2 ?_ | (refine hK _ ?_; clear hK K) | clear hK K)
end Go.Proofs.YtegcmciglakicaaGreat
namespace Go.Proofs.YtegcmciglakicaaGreat
open Go.RowKit Go.Exe
set_option linter.unusedVariables false
set_option linter.unusedSimpArgs false
set_option maxHeartbeats 1000000
set_option maxRecDepth 100000
attribute [local irreducible] W AX Run RunD AStep AOp AOpX AStB AStH AStG Fits PCall GCall PostG Post Stop

theorem addD_len (p : List Nm) (b : Int) : ∀ ds : List Dl, (addD p b ds).length ≤ ds.length + 1
  | [] => by simp [addD]
  | d :: r => by
    have := addD_len p b r
    simp only [addD]
    split <;> simp <;> omega
mutual
theorem addS_len (b : Int) : ∀ (x : Shp) (above : List Nm) (ds : List Dl), (x.addS b above ds).length * 32 ≤ ds.length * 32 + x.tw
  | .mk s o ks, above, ds => by
    have h1 := addsS_len b ks (above ++ [(s, o)]) (addD (above ++ [(s, o)]) b ds)
    have h2 := addD_len (above ++ [(s, o)]) b ds
    simp only [Shp.addS, Shp.tw]
    omega
theorem addsS_len (b : Int) : ∀ (l : List Shp) (path : List Nm) (ds : List Dl), (addsS b l path ds).length * 32 ≤ ds.length * 32 + tws l
  | [], path, ds => by simp [addsS, tws]
  | x :: r, path, ds => by
    have h1 := addsS_len b r path (x.addS b path ds)
    have h2 := addS_len b x path ds
    simp only [addsS, tws]
    omega
end
theorem add_top (by_ : Int) (hby : IntKind.i64.wrap (0 + by_) = by_) (x : Shp) (ds : List Dl) (hn : (ds.map fun d => pkey d.1).Nodup) (hw : x.tw ≤ 140737488355328) :
    GCall Tryz.prog 56 1 (St.g [.c (.mp 0), shT x, ft (.slice none 0 0), ft (.int .i64 by_)] [(0, .map 9 (dE ds))] 1) (St.r (.t []) [(0, .map 9 (dE (x.addS by_ [] ds)))] 1) := by
  refine (add_all by_ hby x [] ds hn (by simpa [pathW] using hw)).fits ?_
  rintro ⟨P, w0, ok0, may, np, pblk⟩ rfl rfl
  obtain ⟨s, o, ks⟩ := x
  simp only [St.g, shT_mk]
  refine Fits.nilSl 2 88 rfl ?_
  refine Fits.fit [(0, 0)] [0, 1, 2, 3] 1 rfl rfl ?_
  simp only [go_sem, rnEs_dE, List.map_nil]
  exact Fits.rfl
def lsT (zs : List Dl) : TV := .c (.im (.sl 86 (zs.map dlA)))
theorem diff_c (x y : Shp) (zs : List Dl) (hl : PCall Tryz.prog 57 [.c (.im (.mp 9 (dA (x.addS (-1) [] (y.addS 1 [] [])))))] (lsT zs)) (hx : x.tw ≤ 140737488355328) (hy : y.tw ≤ 140737488355328) : PCall Tryz.prog 27 [shT x, shT y] (lsT zs) := by
  have hc := add_top 1 (by decide) y [] (by simp) hy
  have hc2 := add_top (-1) (by decide) x (y.addS 1 [] []) (addS_keys 1 y [] [] (by simp)) hx
  have d0 : dE [] = [] := rfl
  rw [d0] at hc
  simp only [lsT] at *
  obtain ⟨s, o, ks⟩ := x
  obtain ⟨s', o', ks'⟩ := y
  simp only [shT_mk] at *
  generalize Shp.addS 1 (.mk s' o' ks') [] [] = ds at *
  generalize Shp.addS (-1) (.mk s o ks) [] ds = ds2 at *
  refine PCall.intro (nt := 15) (rs := [.tmp 4]) Tryz.func27 rfl ⟨by kernel_rfl, by kernel_rfl, by kernel_rfl⟩ (by simp) ?_
  rintro ⟨P, w0, ok0, may, np, pblk⟩ rfl rfl
  repeat' (first | ((show W _ _ _ _); first | refine W.seq fun K hK => ?_ | refine W.block ?_ | ((first | refine wR ?_ | refine wD ?_ | refine W.skip ?_ | refine W.exit ?_ | refine W.ret (Post.ret ?_)); simp only [go_sem, reduceCtorEq]) | refine wT ?_ | refine wF ?_ | refine wC (fun h => ?_) (fun h => ?_)) | ((show AX _ _ _ _ _); (first | refine aP ?_ | refine aF ?_ | refine aL ?_ | refine aU ?_ | refine aM ?_ | refine aN ?_ | refine aR ?_ | refine aS ?_ | refine aH ?_ | refine aI ?_ | refine aB ?_ | refine aZ ?_); simp only [go_sem, reduceCtorEq]) | refine iK ?_ | refine aI2 ?_ | (refine hK _ ?_; clear hK K) | clear hK K)
  refine AX.gcall [3] rfl rfl (hc) (by simp only [go_sem, reduceCtorEq, rnEs_dE]) (by simp only [go_sem, reduceCtorEq, rnEs_dE]) rfl rfl (by simp only [go_sem, Obj.owns]) rfl (by simp only [go_sem, Obj.owns]) rfl rfl ?_
  simp only [go_sem, reduceCtorEq, rnEs_dE]
  repeat' (first | ((show W _ _ _ _); first | refine W.seq fun K hK => ?_ | refine W.block ?_ | ((first | refine wR ?_ | refine wD ?_ | refine W.skip ?_ | refine W.exit ?_ | refine W.ret (Post.ret ?_)); simp only [go_sem, reduceCtorEq]) | refine wT ?_ | refine wF ?_ | refine wC (fun h => ?_) (fun h => ?_)) | ((show AX _ _ _ _ _); (first | refine aP ?_ | refine aF ?_ | refine aL ?_ | refine aU ?_ | refine aM ?_ | refine aN ?_ | refine aR ?_ | refine aS ?_ | refine aH ?_ | refine aI ?_ | refine aB ?_ | refine aZ ?_); simp only [go_sem, reduceCtorEq]) | refine iK ?_ | refine aI2 ?_ | (refine hK _ ?_; clear hK K) | clear hK K)
  refine AX.gcall [3] rfl rfl (hc2) (by simp only [go_sem, reduceCtorEq, rnEs_dE]) (by simp only [go_sem, reduceCtorEq, rnEs_dE]) rfl rfl (by simp only [go_sem, Obj.owns]) rfl (by simp only [go_sem, Obj.owns]) rfl rfl ?_
  simp only [go_sem, reduceCtorEq, rnEs_dE]
  repeat' (first | ((show W _ _ _ _); first | refine W.stop (id := 4) ?_ | refine W.seq fun K hK => ?_ | refine W.block ?_ | ((first | refine wR ?_ | refine wD ?_ | refine W.skip ?_ | refine W.exit ?_ | refine W.ret (Post.ret ?_)); simp only [go_sem, reduceCtorEq]) | refine wT ?_ | refine wF ?_ | refine wC (fun h => ?_) (fun h => ?_)) | ((show AX _ _ _ _ _); (first | refine aP ?_ | refine aF ?_ | refine aL ?_ | refine aU ?_ | refine aM ?_ | refine aN ?_ | refine aR ?_ | refine aS ?_ | refine aH ?_ | refine aI ?_ | refine aB ?_ | refine aZ ?_); simp only [go_sem, reduceCtorEq]) | refine iK ?_ | refine aI2 ?_ | (refine hK _ ?_; clear hK K) | clear hK K)
  refine Stop.out ?_
  trace_state
  refine W.fits (s' := { t := [(5, .c (.mp 3))], h := [(3, .fro (.mp 9 (dA ds2)))], nx := 11, ex := [], nt := 15 }) (Fits.freezeM 3 rfl (dE_close ds2) ?_) ?_
  · simp only [go_sem]
    refine Fits.fit [(3, 3)] [5] 11 rfl rfl ?_
    simp only [go_sem]
    exact Fits.rfl
  repeat' (first | ((show W _ _ _ _); first | refine W.seq fun K hK => ?_ | refine W.block ?_ | ((first | refine wR ?_ | refine wD ?_ | refine W.skip ?_ | refine W.exit ?_ | refine W.ret (Post.ret ?_)); simp only [go_sem, reduceCtorEq]) | refine wT ?_ | refine wF ?_ | refine wC (fun h => ?_) (fun h => ?_)) | ((show AX _ _ _ _ _); (first | refine aP ?_ | refine aF ?_ | refine aL ?_ | refine aU ?_ | refine aM ?_ | refine aN ?_ | refine aR ?_ | refine aS ?_ | refine aH ?_ | refine aI ?_ | refine aB ?_ | refine aZ ?_); simp only [go_sem, reduceCtorEq]) | refine iK ?_ | refine aI2 ?_ | (refine hK _ ?_; clear hK K) | clear hK K)
end Go.Proofs.YtegcmciglakicaaGreat
namespace Go.Proofs.YtegcmciglakicaaGreat
open Go.RowKit Go.Exe
set_option linter.unusedVariables false
set_option linter.unusedSimpArgs false
set_option maxHeartbeats 1000000
set_option maxRecDepth 100000
attribute [local irreducible] W AX Run RunD AStep AOp AOpX AStB AStH AStG Fits PCall GCall PostG Post Stop

abbrev bApi : ByteArray := ⟨#[97, 112, 105]⟩
abbrev bDb : ByteArray := ⟨#[100, 98]⟩
abbrev bCache : ByteArray := ⟨#[99, 97, 99, 104, 101]⟩
abbrev bGet : ByteArray := ⟨#[103, 101, 116]⟩
abbrev kX : Shp := .mk bApi bGet [.mk bDb bGet [], .mk bCache bGet [], .mk bDb bGet []]
abbrev kY : Shp := .mk bApi bGet [.mk bDb bGet []]
abbrev kC : Shp := .mk bApi bGet [.mk bCache bGet [], .mk bDb bGet [], .mk bDb bGet []]
abbrev kZ : List Dl := [([(bApi, bGet), (bCache, bGet)], -1), ([(bApi, bGet), (bDb, bGet)], -1)]
theorem kX_canon : kX.canon = kC := by kernel_rfl
theorem kX_size : kX.size = 4 := by rfl
theorem kX_depth : kX.depth = 2 := by rfl
theorem kX_adds : (kX.addS (-1) [] (kY.addS 1 [] [])) = [([(bApi, bGet)], 0), ([(bApi, bGet), (bDb, bGet)], -1), ([(bApi, bGet), (bCache, bGet)], -1)] := by kernel_rfl
theorem kXY : (kX.canon.cmp kY.canon == 0) = false := by kernel_rfl
theorem eqG59 : Tryz.prog.eqGuardType Tryz.prog.depth 88 = false := by kernel_rfl
theorem eqDb (w : World) : (Op.equal 88 (.agg #[.string ⟨#[100, 98]⟩, .string ⟨#[103, 101, 116]⟩]) (.agg #[.string ⟨#[100, 98]⟩, .string ⟨#[103, 101, 116]⟩])).run Tryz.prog w = .ok true w := by kernel_rfl
theorem known_c (c12 : PCall Tryz.prog 26 [shT kX] (shT kC)) (c15 : PCall Tryz.prog 30 [shT kX, shT kY] (ft (.bool false)))
    (c16 : PCall Tryz.prog 28 [shT kX] (ft (.int .i64 4))) (c18 : PCall Tryz.prog 29 [shT kX] (ft (.int .i64 2))) (c20 : PCall Tryz.prog 27 [shT kX, shT kY] (lsT kZ)) : PCall Tryz.prog 7 [] (ft (.bool true)) := by
  have l1 := leaf_c bApi
  have l2 := leaf_c bDb
  have l3 := leaf_c bCache
  simp only [shT_mk, lsT, avs, Shp.av, kX, kY, kC, kZ, dlA, List.map_cons, List.map_nil, nmA] at *
  refine PCall.intro (nt := 78) (rs := [.tmp 0]) Tryz.func7 rfl ⟨by kernel_rfl, by kernel_rfl, by kernel_rfl⟩ (by simp) ?_
  rintro ⟨P, w0, ok0, may, np, pblk⟩ rfl rfl
  have n3 : (((3 : Nat) : Int) == 3) = true := rfl
  have n2 : (((2 : Nat) : Int) == 2) = true := rfl
  have t1 : Int.toNat 1 = 1 := rfl
  repeat' (first | ((show W _ _ _ _); first | refine W.seq fun K hK => ?_ | refine W.block ?_ | ((first | refine wR ?_ | refine wD ?_ | refine W.skip ?_ | refine W.exit ?_ | refine W.ret (Post.ret ?_)); simp only [go_sem, reduceCtorEq, n3, n2, t1, List.getElem?_cons_succ, List.getElem?_cons_zero, Option.map_some]) | refine wT ?_ | refine wF ?_ | refine wC (fun h => ?_) (fun h => ?_)) | ((show AX _ _ _ _ _); (first | refine aP ?_ | refine aF ?_ | refine aL ?_ | refine aU (hnn := by simp only [go_sem, reduceCtorEq, n3, n2, t1, List.getElem?_cons_succ, List.getElem?_cons_zero, Option.map_some]) ?_ | refine aM ?_ | refine aN ?_ | refine aR ?_ | refine aS (hb := by simp only [go_sem, reduceCtorEq, n3, n2, t1, List.getElem?_cons_succ, List.getElem?_cons_zero, Option.map_some]; first | omega | (simp; omega)) ?_ | refine aH ?_ | refine aI ?_ | refine aB ?_ | refine aZ ?_); simp only [go_sem, reduceCtorEq, n3, n2, t1, List.getElem?_cons_succ, List.getElem?_cons_zero, Option.map_some]) | refine iK ?_ | refine aI2 ?_ | (refine hK _ ?_; clear hK K) | clear hK K)
  refine AX.eqKey (s := _) rfl rfl rfl eqG59 eqDb rfl ?_
  simp only [go_sem]
  repeat' (first | ((show W _ _ _ _); first | refine W.seq fun K hK => ?_ | refine W.block ?_ | ((first | refine wR ?_ | refine wD ?_ | refine W.skip ?_ | refine W.exit ?_ | refine W.ret (Post.ret ?_)); simp only [go_sem, reduceCtorEq, n3, n2, t1, List.getElem?_cons_succ, List.getElem?_cons_zero, Option.map_some]) | refine wT ?_ | refine wF ?_ | refine wC (fun h => ?_) (fun h => ?_)) | ((show AX _ _ _ _ _); (first | refine aP ?_ | refine aF ?_ | refine aL ?_ | refine aU (hnn := by simp only [go_sem, reduceCtorEq, n3, n2, t1, List.getElem?_cons_succ, List.getElem?_cons_zero, Option.map_some]) ?_ | refine aM ?_ | refine aN ?_ | refine aR ?_ | refine aS (hb := by simp only [go_sem, reduceCtorEq, n3, n2, t1, List.getElem?_cons_succ, List.getElem?_cons_zero, Option.map_some]; first | omega | (simp; omega)) ?_ | refine aH ?_ | refine aI ?_ | refine aB ?_ | refine aZ ?_); simp only [go_sem, reduceCtorEq, n3, n2, t1, List.getElem?_cons_succ, List.getElem?_cons_zero, Option.map_some]) | refine iK ?_ | refine aI2 ?_ | (refine hK _ ?_; clear hK K) | clear hK K)
end Go.Proofs.YtegcmciglakicaaGreat
namespace Go.Proofs.YtegcmciglakicaaGreat
open Go.RowKit Go.Exe
set_option linter.unusedVariables false
set_option linter.unusedSimpArgs false
set_option maxRecDepth 100000

/-- An order told by a number. -/
structure Lw {α : Type} (cm : α → α → Int) : Prop where
  anti : ∀ a b, cm b a = - cm a b
  tr : ∀ a b c, cm a b ≤ 0 → cm b c ≤ 0 → cm a c ≤ 0
  eq : ∀ a b, cm a b = 0 → a = b
theorem Lw.refl {α : Type} {cm : α → α → Int} (h : Lw cm) (a : α) : cm a a = 0 := by have := h.anti a a; omega
theorem Lw.lt1 {α : Type} {cm : α → α → Int} (h : Lw cm) {a b c : α} (h1 : cm a b < 0) (h2 : cm b c ≤ 0) : cm a c < 0 := by
  have h3 := h.tr a b c (by omega) h2
  by_cases h4 : cm a c = 0
  · have := h.eq a c h4
    subst this
    have := h.anti a b
    omega
  · omega
theorem Lw.lt2 {α : Type} {cm : α → α → Int} (h : Lw cm) {a b c : α} (h1 : cm a b ≤ 0) (h2 : cm b c < 0) : cm a c < 0 := by
  have h3 := h.tr a b c h1 (by omega)
  by_cases h4 : cm a c = 0
  · have := h.eq a c h4
    subst this
    have := h.anti a b
    omega
  · omega
theorem cmpsG_anti {α : Type} {cm : α → α → Int} : ∀ (x y : List α), (∀ a ∈ x, ∀ b ∈ y, cm b a = - cm a b) → cmpsG cm y x = - cmpsG cm x y
  | [], [], _ => rfl
  | [], _ :: _, _ => rfl
  | _ :: _, [], _ => rfl
  | a :: x, b :: y, h => by
    have h1 := h a (by simp) b (by simp)
    have h2 := cmpsG_anti x y fun a ha b hb => h a (by simp [ha]) b (by simp [hb])
    simp only [cmpsG]
    split <;> split <;> omega
theorem cmpsG_eq {α : Type} {cm : α → α → Int} : ∀ (x y : List α), (∀ a ∈ x, ∀ b ∈ y, cm a b = 0 → a = b) → cmpsG cm x y = 0 → x = y
  | [], [], _, _ => rfl
  | [], _ :: _, _, h => by simp [cmpsG] at h
  | _ :: _, [], _, h => by simp [cmpsG] at h
  | a :: x, b :: y, h, h0 => by
    simp only [cmpsG] at h0
    split at h0
    · omega
    · rename_i h1
      have e := h a (by simp) b (by simp) (by omega)
      have := cmpsG_eq x y (fun a ha b hb => h a (by simp [ha]) b (by simp [hb])) h0
      rw [e, this]
theorem cmpsG_tr {α : Type} {cm : α → α → Int} : ∀ (x y z : List α), (∀ a ∈ x, ∀ b, cm b a = - cm a b) → (∀ a ∈ x, ∀ b c, cm a b ≤ 0 → cm b c ≤ 0 → cm a c ≤ 0) → (∀ a ∈ x, ∀ b, cm a b = 0 → a = b) → (∀ a b, cm a b = 0 → a = b) → cmpsG cm x y ≤ 0 → cmpsG cm y z ≤ 0 → cmpsG cm x z ≤ 0
  | [], _, [], _, _, _, _, _, _ => by simp [cmpsG]
  | [], _, _ :: _, _, _, _, _, _, _ => by simp [cmpsG]
  | _ :: _, [], _, _, _, _, _, h, _ => by simp [cmpsG] at h
  | _ :: _, _ :: _, [], _, _, _, _, _, h => by simp [cmpsG] at h
  | a :: x, b :: y, c :: z, ha, ht, he, he2, h1, h2 => by
    have ih := cmpsG_tr x y z (fun a h => ha a (by simp [h])) (fun a h => ht a (by simp [h])) (fun a h => he a (by simp [h])) he2
    have t1 := ht a (by simp) b c
    have n1 := ha a (by simp) b
    have n2 := ha a (by simp) c
    simp only [cmpsG] at h1 h2 ⊢
    split at h1
    · split at h2
      · have t2 := t1 h1 h2
        split
        · exact t2
        · rename_i h3 h4 h5
          have := he a (by simp) c (by omega)
          subst this
          omega
      · rename_i h3 h4
        have := he2 b c (by omega)
        subst this
        rw [if_pos h3]; exact h1
    · rename_i h3
      have := he a (by simp) b (by omega)
      subst this
      split at h2
      · rename_i h4
        rw [if_pos h4]; exact h2
      · rename_i h4
        rw [if_neg h4]; exact ih h1 h2
theorem Lw.list {α : Type} {cm : α → α → Int} (h : Lw cm) : Lw (cmpsG cm) :=
  ⟨fun x y => cmpsG_anti x y fun a _ b _ => h.anti a b, fun x y z => cmpsG_tr x y z (fun a _ b => h.anti a b) (fun a _ b c => h.tr a b c) (fun a _ b => h.eq a b) h.eq, fun x y => cmpsG_eq x y fun a _ b _ => h.eq a b⟩
def cmpU (a b : UInt8) : Int := if a < b then -1 else if b < a then 1 else 0
theorem lwU : Lw cmpU := by
  refine ⟨fun a b => ?_, fun a b c h1 h2 => ?_, fun a b h => ?_⟩
  · simp only [cmpU, UInt8.lt_iff_toNat_lt]; split <;> split <;> omega
  · simp only [cmpU, UInt8.lt_iff_toNat_lt] at *; split at h1 <;> split at h2 <;> (try split at h1) <;> (try split at h2) <;> split <;> (try split) <;> omega
  · simp only [cmpU, UInt8.lt_iff_toNat_lt] at h
    apply UInt8.toNat_inj.1
    split at h
    · omega
    · split at h <;> omega
theorem cmpL_eq : ∀ (x y : List UInt8), (if Op.bytesLess x y then (-1 : Int) else if !(Op.bytesLess x y || x == y) then 1 else 0) = cmpsG cmpU x y
  | [], [] => by simp [Op.bytesLess, cmpsG]
  | [], _ :: _ => by simp [Op.bytesLess, cmpsG]
  | _ :: _, [] => by simp [Op.bytesLess, cmpsG]
  | a :: x, b :: y => by
    have ih := cmpL_eq x y
    simp only [cmpsG, ← ih, Op.bytesLess, cmpU]
    by_cases h1 : a < b
    · simp [h1]
    · by_cases h2 : b < a
      · have h3 : a ≠ b := fun e => by subst e; exact h1 h2
        simp [h1, h2, h3]
      · have h3 : a = b := by
          simp only [UInt8.lt_iff_toNat_lt] at h1 h2
          exact UInt8.toNat_inj.1 (by omega)
        subst h3
        simp [h1]
theorem lwB : Lw cmpB := by
  have key : ∀ a b, cmpB a b = cmpsG cmpU a.toList b.toList := fun a b => cmpL_eq _ _
  refine ⟨fun a b => ?_, fun a b c => ?_, fun a b h => ?_⟩
  · rw [key, key]; exact lwU.list.anti _ _
  · rw [key, key, key]; exact lwU.list.tr _ _ _
  · rw [key] at h
    have := lwU.list.eq _ _ h
    rw [ByteArray.toList_eq, ByteArray.toList_eq] at this
    exact ByteArray.ext (Array.toList_inj.1 this)
theorem cmpN_eq (a b : Nm) : cmpN a b = if cmpB a.1 b.1 ≠ 0 then cmpB a.1 b.1 else cmpB a.2 b.2 := by
  simp only [cmpN, orL]
  by_cases h : cmpB a.1 b.1 = 0
  · simp [h]
    exact fun h => h.symm
  · simp [h]
theorem lwN : Lw cmpN := by
  refine ⟨fun a b => ?_, fun a b c h1 h2 => ?_, fun a b h => ?_⟩
  · have := lwB.anti a.1 b.1
    have := lwB.anti a.2 b.2
    rw [cmpN_eq, cmpN_eq]
    split <;> split <;> omega
  · have l := lwU
    rw [cmpN_eq] at *
    by_cases e1 : cmpB a.1 b.1 = 0
    · have := lwB.eq _ _ e1
      rw [if_neg (by omega)] at h1
      rw [this]
      split at h2
      · rename_i h; rw [if_pos h]; exact h2
      · rename_i h; rw [if_neg h]; exact lwB.tr _ _ _ h1 h2
    · rw [if_pos e1] at h1
      by_cases e2 : cmpB b.1 c.1 = 0
      · have := lwB.eq _ _ e2
        rw [← this, if_pos e1]; exact h1
      · rw [if_pos e2] at h2
        have := lwB.lt1 (a := a.1) (b := b.1) (c := c.1) (by omega) h2
        rw [if_pos (by omega)]; omega
  · rw [cmpN_eq] at h
    split at h
    · omega
    · rename_i h1
      exact Prod.ext (lwB.eq _ _ (by omega)) (lwB.eq _ _ h)
theorem lwPath : Lw cmpPath := lwN.list
theorem cmps_G : ∀ l m : List Shp, cmps l m = cmpsG Shp.cmp l m
  | [], [] => by simp [cmps, cmpsG]
  | [], _ :: _ => by simp [cmps, cmpsG]
  | _ :: _, [] => by simp [cmps, cmpsG]
  | x :: r, y :: q => by simp only [cmps, cmpsG, cmps_G r q]
theorem cmp_mk (s o s' o' : ByteArray) (ks ks' : List Shp) : Shp.cmp (.mk s o ks) (.mk s' o' ks') = if cmpN (s, o) (s', o') ≠ 0 then cmpN (s, o) (s', o') else cmpsG Shp.cmp ks ks' := by
  rw [Shp.cmp, cmps_G]
  rfl
theorem shp_anti : ∀ x y : Shp, y.cmp x = - x.cmp y
  | .mk s o ks, .mk s' o' ks' => by
    have h1 := lwN.anti (s, o) (s', o')
    have h2 := cmpsG_anti ks ks' fun a ha b hb => shp_anti a b
    rw [cmp_mk, cmp_mk]
    split <;> split <;> omega
termination_by x => SizeOf.sizeOf x
decreasing_by
  have := List.sizeOf_lt_of_mem ha
  simp only [Shp.mk.sizeOf_spec]
  omega
theorem shp_eq : ∀ x y : Shp, x.cmp y = 0 → x = y
  | .mk s o ks, .mk s' o' ks', h => by
    rw [cmp_mk] at h
    split at h
    · omega
    · rename_i h1
      have h2 := lwN.eq _ _ (show cmpN (s, o) (s', o') = 0 by omega)
      have h3 := cmpsG_eq ks ks' (fun a ha b hb => shp_eq a b) h
      cases h2
      rw [h3]
termination_by x => SizeOf.sizeOf x
decreasing_by
  have := List.sizeOf_lt_of_mem ha
  simp only [Shp.mk.sizeOf_spec]
  omega
theorem shp_tr : ∀ x y z : Shp, x.cmp y ≤ 0 → y.cmp z ≤ 0 → x.cmp z ≤ 0
  | .mk s o ks, .mk s' o' ks', .mk s'' o'' ks'', h1, h2 => by
    have ht := cmpsG_tr ks ks' ks'' (fun a _ b => shp_anti a b) (fun a ha b c => shp_tr a b c) (fun a _ b => shp_eq a b) shp_eq
    rw [cmp_mk] at *
    by_cases e1 : cmpN (s, o) (s', o') = 0
    · have := lwN.eq _ _ e1
      rw [if_neg (by omega)] at h1
      rw [this]
      split at h2
      · rename_i h; rw [if_pos h]; exact h2
      · rename_i h; rw [if_neg h]; exact ht h1 h2
    · rw [if_pos e1] at h1
      by_cases e2 : cmpN (s', o') (s'', o'') = 0
      · have := lwN.eq _ _ e2
        rw [← this, if_pos e1]; exact h1
      · rw [if_pos e2] at h2
        have := lwN.lt1 (a := (s, o)) (b := (s', o')) (c := (s'', o'')) (by omega) h2
        rw [if_pos (by omega)]; omega
termination_by x => SizeOf.sizeOf x
decreasing_by
  have := List.sizeOf_lt_of_mem ha
  simp only [Shp.mk.sizeOf_spec]
  omega
theorem lwS : Lw Shp.cmp := ⟨shp_anti, shp_tr, shp_eq⟩
theorem Lw.ord {α : Type} {cm : α → α → Int} (h : Lw cm) (l : List α) : OrdOn cm l :=
  ⟨fun x _ h1 => by have := h.refl x; omega, fun x _ y _ z _ h1 h2 => h.lt1 h1 (by omega), fun x _ y _ z _ h1 h2 h3 => by
    have a1 := h.anti x y
    have a2 := h.anti y z
    have a3 := h.anti x z
    have := h.tr z y x (by omega) (by omega)
    omega⟩
theorem Lw.uni {α : Type} {cm : α → α → Int} (h : Lw cm) : ∀ {l m : List α}, l.Perm m → l.Pairwise (fun a b => ¬ cm b a < 0) → m.Pairwise (fun a b => ¬ cm b a < 0) → l = m
  | [], m, hp, _, _ => by rw [List.nil_perm.1 hp]
  | x :: r, [], hp, _, _ => by have := hp.length_eq; simp at this
  | x :: r, y :: q, hp, h1, h2 => by
    rw [List.pairwise_cons] at h1 h2
    have e : x = y := by
      have hx : x ∈ y :: q := hp.subset (by simp)
      have hy : y ∈ x :: r := hp.symm.subset (by simp)
      rcases List.mem_cons.1 hx with e | hx
      · exact e
      · rcases List.mem_cons.1 hy with e | hy
        · exact e.symm
        · have a1 := h1.1 y hy
          have a2 := h2.1 x hx
          have a3 := h.anti x y
          exact h.eq x y (by omega)
    subst e
    rw [Lw.uni h (List.perm_cons x |>.1 hp) h1.2 h2.2]
theorem ins1_perm (x : Shp) : ∀ l, (ins1 x l).Perm (x :: l)
  | [] => List.Perm.refl _
  | y :: r => by
    simp only [ins1]
    split
    · exact List.Perm.refl _
    · exact ((ins1_perm x r).cons y).trans (List.Perm.swap x y r)
theorem srt_perm : ∀ l, (srt l).Perm l
  | [] => List.Perm.refl _
  | x :: r => (ins1_perm x _).trans ((srt_perm r).cons x)
theorem ins1_sorted (x : Shp) : ∀ l : List Shp, l.Pairwise (fun a b => ¬ b.cmp a < 0) → (ins1 x l).Pairwise (fun a b => ¬ b.cmp a < 0)
  | [], _ => by simp [ins1]
  | y :: r, h => by
    simp only [ins1]
    have hc := List.pairwise_cons.1 h
    split
    · rename_i hl
      refine List.pairwise_cons.2 ⟨fun z hz => ?_, h⟩
      rcases List.mem_cons.1 hz with rfl | hz
      · have := lwS.anti x z; omega
      · have a1 := hc.1 z hz
        have a2 := lwS.anti z y
        have a3 := lwS.tr x y z (by omega) (by omega)
        have a4 := lwS.anti x z
        omega
    · rename_i hl
      refine List.pairwise_cons.2 ⟨fun z hz => ?_, ins1_sorted x r hc.2⟩
      rcases List.mem_cons.1 ((ins1_perm x r).subset hz) with rfl | hz
      · exact hl
      · exact hc.1 z hz
theorem srt_sorted : ∀ l, (srt l).Pairwise (fun a b => ¬ b.cmp a < 0)
  | [] => List.Pairwise.nil
  | x :: r => ins1_sorted x _ (srt_sorted r)
theorem srt_uni (l zs : List Shp) (hp : zs.Perm l) (hs : zs.Pairwise fun a b => ¬ b.cmp a < 0) : zs = srt l := lwS.uni (hp.trans (srt_perm l).symm) hs (srt_sorted l)
end Go.Proofs.YtegcmciglakicaaGreat
namespace Go.Proofs.YtegcmciglakicaaGreat
open Go.RowKit Go.Exe
set_option linter.unusedVariables false
set_option linter.unusedSimpArgs false
set_option maxRecDepth 100000

theorem srt_fix {l : List Shp} (h : l.Pairwise fun a b => ¬ b.cmp a < 0) : srt l = l := (srt_uni l l (List.Perm.refl _) h).symm
theorem canon_idem : ∀ x : Shp, x.canon.canon = x.canon
  | .mk s o ks => by
    have h : canons (srt (canons ks)) = srt (canons ks) := by
      rw [canons_map (srt (canons ks))]
      refine (List.map_congr_left fun y hy => ?_).trans (List.map_id _)
      have := (srt_perm (canons ks)).subset hy
      rw [canons_map] at this
      obtain ⟨x, hx, rfl⟩ := List.mem_map.1 this
      exact canon_idem x
    simp only [Shp.canon]
    rw [h, srt_fix (srt_sorted _)]
termination_by x => SizeOf.sizeOf x
decreasing_by
  have := List.sizeOf_lt_of_mem hx
  simp only [Shp.mk.sizeOf_spec]
  omega
theorem posR_spec (c : Shp) (l : List Shp) : ∀ n, n ≤ l.length → (∀ i x, posR c l n ≤ i → i < n → l[i]? = some x → x.cmp c > 0) ∧ (∀ i x, posR c l n = i + 1 → l[i]? = some x → ¬ x.cmp c > 0)
  | 0, _ => ⟨fun i x h1 h2 => by omega, fun i x h => by simp [posR] at h⟩
  | n + 1, hn => by
    obtain ⟨x0, hx0⟩ : ∃ x0, l[n]? = some x0 := ⟨l[n], List.getElem?_eq_getElem (by omega)⟩
    obtain ⟨h1, h2⟩ := posR_spec c l n (by omega)
    unfold posR
    rw [hx0]
    simp only
    split
    · rename_i hg
      refine ⟨fun i x a1 a2 a3 => ?_, h2⟩
      by_cases e : i = n
      · subst e; rw [hx0] at a3; cases a3; exact hg
      · exact h1 i x a1 (by omega) a3
    · rename_i hg
      refine ⟨fun i x a1 a2 => by omega, fun i x a1 a2 => ?_⟩
      have : i = n := by omega
      subst this; rw [hx0] at a2; cases a2; exact hg
theorem insM_perm (c : Shp) (l : List Shp) : (insM c l).Perm (c :: l) := by
  have h : (insM c l).Perm (c :: (l.take (posR c l l.length) ++ l.drop (posR c l l.length))) := by
    simp only [insM, List.append_assoc]
    exact List.perm_middle
  rwa [List.take_append_drop] at h
theorem insM_sorted (c : Shp) (l : List Shp) (h : l.Pairwise fun a b => ¬ b.cmp a < 0) : (insM c l).Pairwise fun a b => ¬ b.cmp a < 0 := by
  obtain ⟨h1, h2⟩ := posR_spec c l l.length (Nat.le_refl _)
  have hp := posR_le c l l.length
  have hlo : ∀ x ∈ l.take (posR c l l.length), x.cmp c ≤ 0 := fun x hx => by
    obtain ⟨i, hi, hx⟩ := List.mem_iff_getElem.1 hx
    rw [List.length_take] at hi
    rw [List.getElem_take] at hx
    have hq : (posR c l l.length) - 1 < l.length := by omega
    have h3 := h2 (posR c l l.length - 1) _ (by omega) (List.getElem?_eq_getElem hq)
    by_cases e : i = posR c l l.length - 1
    · subst e; subst hx; omega
    · have h4 := List.pairwise_iff_getElem.1 h i (posR c l l.length - 1) (by omega) hq (by omega)
      subst hx
      have a1 := lwS.anti l[i] l[posR c l l.length - 1]
      exact lwS.tr _ _ _ (by omega) (by omega : l[posR c l l.length - 1].cmp c ≤ 0)
  have hhi : ∀ x ∈ l.drop (posR c l l.length), x.cmp c > 0 := fun x hx => by
    obtain ⟨i, hi, hx⟩ := List.mem_iff_getElem.1 hx
    rw [List.length_drop] at hi
    rw [List.getElem_drop] at hx
    exact h1 (posR c l l.length + i) x (by omega) (by omega) (by rw [← hx]; exact List.getElem?_eq_getElem _)
  have hs : (l.take (posR c l l.length) ++ l.drop (posR c l l.length)).Pairwise fun a b => ¬ b.cmp a < 0 := by rw [List.take_append_drop]; exact h
  rw [List.pairwise_append] at hs
  simp only [insM, List.append_assoc]
  rw [List.pairwise_append]
  refine ⟨hs.1, List.pairwise_cons.2 ⟨fun b hb => ?_, hs.2.1⟩, fun a ha b hb => ?_⟩
  · have := hhi b (by simpa using hb); omega
  · have a1 := hlo a ha
    rcases List.mem_cons.1 (by simpa using hb) with rfl | hb
    · have := lwS.anti a b; omega
    · exact hs.2.2 a ha b hb
theorem mcanons_spec : ∀ (l acc : List Shp), acc.Pairwise (fun a b => ¬ b.cmp a < 0) → (mcanons acc l).Pairwise (fun a b => ¬ b.cmp a < 0) ∧ (mcanons acc l).Perm (acc ++ l.map Shp.mcanon)
  | [], acc, h => by simp only [mcanons, List.map_nil, List.append_nil]; exact ⟨h, List.Perm.refl _⟩
  | x :: r, acc, h => by
    obtain ⟨h1, h2⟩ := mcanons_spec r (insM x.mcanon acc) (insM_sorted _ _ h)
    simp only [mcanons, List.map_cons]
    refine ⟨h1, h2.trans ?_⟩
    exact ((insM_perm x.mcanon acc).append_right _).trans List.perm_middle.symm
theorem mcanon_eq : ∀ x : Shp, x.mcanon = x.canon
  | .mk s o ks => by
    obtain ⟨h1, h2⟩ := mcanons_spec ks [] List.Pairwise.nil
    have h3 : ks.map Shp.mcanon = canons ks := by
      rw [canons_map]
      exact List.map_congr_left fun x hx => mcanon_eq x
    rw [List.nil_append, h3] at h2
    simp only [Shp.mcanon, Shp.canon]
    rw [srt_uni _ _ h2 h1]
termination_by x => SizeOf.sizeOf x
decreasing_by
  have := List.sizeOf_lt_of_mem hx
  simp only [Shp.mk.sizeOf_spec]
  omega
mutual
theorem same_refl : ∀ x : Shp, x.same x = true
  | .mk s o ks => by simp [Shp.same, sames_refl ks]
theorem sames_refl : ∀ l : List Shp, sames l l = true
  | [] => by simp [sames]
  | x :: r => by simp [sames, same_refl x, sames_refl r]
end
theorem canon_self (x : Shp) : x.canon.cmp x.canon.canon = 0 := by rw [canon_idem]; exact lwS.refl _
end Go.Proofs.YtegcmciglakicaaGreat
namespace Go.Proofs.YtegcmciglakicaaGreat
open Go.RowKit Go.Exe
set_option linter.unusedVariables false
set_option linter.unusedSimpArgs false
set_option maxRecDepth 100000

theorem all34 : ∀ x y : Shp, PCall Tryz.prog 37 [shT x, shT y] (ft (.int .i64 (x.cmp y))) := shcompare_all cmpOr_c
theorem all12 (c35 : SortC Tryz.prog 36 3) : ∀ x : Shp, PCall Tryz.prog 26 [shT x] (shT x.canon)
  | .mk s o ks => canonical_c c35 all34 lwS.ord srt_perm srt_uni s o ks fun x hx => all12 c35 x
termination_by x => SizeOf.sizeOf x
decreasing_by
  have := List.sizeOf_lt_of_mem hx
  simp only [Shp.mk.sizeOf_spec]
  omega
theorem all14 : ∀ x y : Shp, PCall Tryz.prog 24 [shT x, shT y] (ft (.int .i64 (x.cmp y)))
  | .mk s o ks, .mk s' o' ks' => mcompare_c sign_c compareStrings_c s o s' o' ks ks' fun x hx y hy => all14 x y
termination_by x => SizeOf.sizeOf x
decreasing_by
  have := List.sizeOf_lt_of_mem hx
  simp only [Shp.mk.sizeOf_spec]
  omega
theorem all13 : ∀ x : Shp, PCall Tryz.prog 40 [shT x] (shT x.mcanon)
  | .mk s o ks => mcanonical_c all14 s o ks fun x hx => all13 x
termination_by x => SizeOf.sizeOf x
decreasing_by
  have := List.sizeOf_lt_of_mem hx
  simp only [Shp.mk.sizeOf_spec]
  omega
theorem all11 : ∀ x y : Shp, PCall Tryz.prog 11 [shT x, shT y] (ft (.bool (x.same y)))
  | .mk s o ks, .mk s' o' ks' => same_c s o s' o' ks ks' fun x hx y hy => all11 x y
termination_by x => SizeOf.sizeOf x
decreasing_by
  have := List.sizeOf_lt_of_mem hx
  simp only [Shp.mk.sizeOf_spec]
  omega
theorem size_mem {ks : List Shp} {x : Shp} (h : x ∈ ks) : x.size ≤ sizes ks := by
  induction ks with
  | nil => simp at h
  | cons y r ih =>
    rcases List.mem_cons.1 h with rfl | h
    · simp [sizes]
    · have := ih h; simp only [sizes]; omega
theorem all16 : ∀ x : Shp, x.size ≤ 9223372036854775807 → PCall Tryz.prog 28 [shT x] (ft (.int .i64 x.size))
  | .mk s o ks, h => Size_c s o ks h fun x hx => all16 x (by have := size_mem hx; simp only [Shp.size] at h; omega)
termination_by x => SizeOf.sizeOf x
decreasing_by
  have := List.sizeOf_lt_of_mem hx
  simp only [Shp.mk.sizeOf_spec]
  omega
theorem all17 : ∀ x : Shp, x.size ≤ 9223372036854775807 → PCall Tryz.prog 19 [shT x] (ft (.int .i64 x.size))
  | .mk s o ks, h => size_c s o ks h fun x hx => all17 x (by have := size_mem hx; simp only [Shp.size] at h; omega)
termination_by x => SizeOf.sizeOf x
decreasing_by
  have := List.sizeOf_lt_of_mem hx
  simp only [Shp.mk.sizeOf_spec]
  omega
theorem all18 : ∀ x : Shp, x.size ≤ 9223372036854775807 → PCall Tryz.prog 29 [shT x] (ft (.int .i64 x.depth))
  | .mk s o ks, h => Depth_c s o ks h fun x hx => all18 x (by have := size_mem hx; simp only [Shp.size] at h; omega)
termination_by x => SizeOf.sizeOf x
decreasing_by
  have := List.sizeOf_lt_of_mem hx
  simp only [Shp.mk.sizeOf_spec]
  omega
theorem cmpB_range (a b : ByteArray) : -1 ≤ cmpB a b ∧ cmpB a b ≤ 1 := by
  simp only [cmpB]
  split
  · omega
  · split <;> omega
theorem cmpN_range (a b : Nm) : -1 ≤ cmpN a b ∧ cmpN a b ≤ 1 := by
  rw [cmpN_eq]
  split
  · exact cmpB_range _ _
  · exact cmpB_range _ _
theorem cmpsG_range {α : Type} {cm : α → α → Int} : ∀ (x y : List α), (∀ a ∈ x, ∀ b, -1 ≤ cm a b ∧ cm a b ≤ 1) → -1 ≤ cmpsG cm x y ∧ cmpsG cm x y ≤ 1
  | [], [], _ => by simp [cmpsG]
  | [], _ :: _, _ => by simp [cmpsG]
  | _ :: _, [], _ => by simp [cmpsG]
  | a :: x, b :: y, h => by
    simp only [cmpsG]
    split
    · exact h a (by simp) b
    · exact cmpsG_range x y fun a ha => h a (by simp [ha])
theorem shp_range : ∀ x y : Shp, -1 ≤ x.cmp y ∧ x.cmp y ≤ 1
  | .mk s o ks, .mk s' o' ks' => by
    rw [cmp_mk]
    split
    · exact cmpN_range _ _
    · exact cmpsG_range ks ks' fun a ha b => shp_range a b
termination_by x => SizeOf.sizeOf x
decreasing_by
  have := List.sizeOf_lt_of_mem ha
  simp only [Shp.mk.sizeOf_spec]
  omega
theorem wrap_neg {n : Int} (h : -1 ≤ n ∧ n ≤ 1) : IntKind.i64.wrap (0 - n) = - n := by
  have : n = -1 ∨ n = 0 ∨ n = 1 := by omega
  rcases this with rfl | rfl | rfl <;> decide
/-! ### ShapeForms -/
theorem cmpPath_ord (l : List Dl) : OrdOn (fun a b : Dl => cmpPath a.1 b.1) l :=
  ⟨fun x _ => (lwPath.ord [x.1]).irrefl _ (by simp), fun x _ y _ z _ => (lwPath.ord [x.1, y.1, z.1]).trans _ (by simp) _ (by simp) _ (by simp), fun x _ y _ z _ => (lwPath.ord [x.1, y.1, z.1]).ntrans _ (by simp) _ (by simp) _ (by simp)⟩
/-- Sorted lists of the same deltas, whose paths are apart, are the same list. -/
theorem dl_uni {zs zs' : List Dl} (hp : zs'.Perm zs) (hn : ∀ a ∈ zs, ∀ b ∈ zs, a.1 = b.1 → a = b) (h1 : zs'.Pairwise fun a b => ¬ cmpPath b.1 a.1 < 0) (h2 : zs.Pairwise fun a b => ¬ cmpPath b.1 a.1 < 0) : zs' = zs := by
  induction zs' generalizing zs with
  | nil => rw [List.nil_perm.1 hp]
  | cons x r ih =>
    cases zs with
    | nil => have := hp.length_eq; simp at this
    | cons y q =>
      rw [List.pairwise_cons] at h1 h2
      have e : x = y := by
        have hx : x ∈ y :: q := hp.subset (by simp)
        have hy : y ∈ x :: r := hp.symm.subset (by simp)
        refine hn x hx y (by simp) ?_
        rcases List.mem_cons.1 hx with e | hx2
        · rw [e]
        · rcases List.mem_cons.1 hy with e | hy2
          · rw [e]
          · have a1 := h1.1 y hy2
            have a2 := h2.1 x hx2
            have a3 := lwPath.anti x.1 y.1
            exact lwPath.eq _ _ (by omega)
      subst e
      rw [ih ((List.perm_cons x).1 hp) (fun a ha b hb => hn a (by simp [ha]) b (by simp [hb])) h1.2 h2.2]
theorem known_all (c35 : SortC Tryz.prog 36 3) (c55 : SortC Tryz.prog 89 2) : PCall Tryz.prog 7 [] (ft (.bool true)) := by
  have c12 := all12 c35 kX
  rw [kX_canon] at c12
  have c15 := Equal_c (Compare_c (all12 c35) all34) kX kY
  rw [kXY] at c15
  have c16 := all16 kX (by rw [kX_size]; omega)
  have c18 := all18 kX (by rw [kX_size]; omega)
  rw [kX_size] at c16
  rw [kX_depth] at c18
  refine known_c c12 c15 c16 c18 (diff_c kX kY kZ ?_ (by decide) (by decide))
  rw [kX_adds]
  refine list_c c55 cmpOr_c _ kZ (by decide) (fun l _ => cmpPath_ord l) ?_ ?_
  · exact List.Perm.swap _ _ _
  · intro zs' hp h1
    have key : ∀ a ∈ kZ, a.2 = -1 := by intro a ha; simp only [kZ, List.mem_cons, List.not_mem_nil, or_false] at ha; rcases ha with rfl | rfl <;> rfl
    refine dl_uni hp (fun a ha b hb e => Prod.ext e ((key a ha).trans (key b hb).symm)) h1 (List.pairwise_cons.2 ⟨fun b hb => ?_, List.pairwise_cons.2 ⟨fun b hb => by simp at hb, List.Pairwise.nil⟩⟩)
    obtain rfl := List.mem_singleton.1 hb
    have : cmpPath [(bApi, bGet), (bDb, bGet)] [(bApi, bGet), (bCache, bGet)] = 1 := by kernel_rfl
    show ¬ cmpPath [(bApi, bGet), (bDb, bGet)] [(bApi, bGet), (bCache, bGet)] < 0
    omega
end Go.Proofs.YtegcmciglakicaaGreat
namespace Go.Proofs
open Go.Shelf Go.RowKit Go.Lib Go.Sort
theorem YtegcmciglakicaaGreat.sortC_of {P : Program} {ρ : Ren} (L : SlLaysF0.n6 P ρ) (k : Nat) (aE : ∀ w, (isAgg (ρ.t 24)).run P w = .ok true w) (zE : ∀ w, (Go.sizeOf (ρ.t 24)).run P w = .ok k w) (ok : Go.Exe.CallOk P (ρ.f 6)) : Go.Exe.SortC P (ρ.f 6) k :=
  ⟨ok, fun p cap fv w => AnyF.slices_SortFunc_none L p cap fv w, fun enc cf g blk cap n w hk h1 hO eg hcmp hH hblk hsz => by
    have h := AnyQ.slices_SortFunc L k aE zE enc hk h1 cf hO g #[] blk 0 cap (Array.range n) w eg (fun m os dk hd x y => hcmp m os dk (by simpa using hd) x y) hH hblk (by simpa using hsz)
    rw [Array.size_range] at h
    exact h⟩
end Go.Proofs
/-
  DERIVED: THE SHELF's CONTRACTS AT THIS DUMP, IN PLAIN WORDS (tools/lay-plain.mjs out of 'ZUo.lean', which tools/lay-shelf.mjs wrote): THE SAME DECLARATIONS UNDER THE SAME NAMES: 'import', 'namespace', 'open', 'def', 'theorem' AND NOTHING ELSE: no command of the shelf's: FOR A HAND-IN. Each laying: the table of numbers ('.._ren') and one theorem, a field a fact of the dump's own or the kernel's comparison; each contract: ONE APPLICATION.
-/
namespace Go.Proofs
open Go.Shelf
def Tryz.sort36_ren : Go.Shelf.Ren := ⟨fun | 6 => 36 | 15 => 64 | 14 => 63 | 28 => 103 | 29 => 104 | 20 => 95 | 21 => 96 | 22 => 97 | 23 => 98 | 24 => 99 | 25 => 100 | 26 => 101 | 27 => 102 | 46 => 135 | 47 => 136 | 48 => 137 | 49 => 138 | 50 => 139 | 57 => 158 | n => n, fun | 22 => 39 | 24 => 41 | 25 => 78 | 3 => 3 | 39 => 134 | 0 => 0 | 53 => 179 | 55 => 181 | 4 => 4 | 46 => 173 | 45 => 172 | 50 => 105 | 5 => 5 | 9 => 9 | 66 => 210 | 70 => 214 | 76 => 228 | 77 => 229 | n => n, fun | n => n⟩
theorem Tryz.sort36 : Go.Proofs.SlLaysF0.n6 Tryz.prog Tryz.sort36_ren := {
  mixed := by kernel_rfl
  f6 := ⟨Tryz.f36.name, by decide, Tryz.func36.trans (congrArg some (by kernel_rfl))⟩
  f14 := ⟨Tryz.f63.name, by decide, Tryz.func63.trans (congrArg some (by kernel_rfl))⟩
  f15 := Tryz.func64.trans (congrArg some (by kernel_rfl))
  f20 := ⟨Tryz.f95.name, by decide, Tryz.func95.trans (congrArg some (by kernel_rfl))⟩
  f21 := ⟨Tryz.f96.name, by decide, Tryz.func96.trans (congrArg some (by kernel_rfl))⟩
  f22 := ⟨Tryz.f97.name, by decide, Tryz.func97.trans (congrArg some (by kernel_rfl))⟩
  f23 := ⟨Tryz.f98.name, by decide, Tryz.func98.trans (congrArg some (by kernel_rfl))⟩
  f24 := ⟨Tryz.f99.name, by decide, Tryz.func99.trans (congrArg some (by kernel_rfl))⟩
  f25 := ⟨Tryz.f100.name, by decide, Tryz.func100.trans (congrArg some (by kernel_rfl))⟩
  f26 := ⟨Tryz.f101.name, by decide, Tryz.func101.trans (congrArg some (by kernel_rfl))⟩
  f27 := ⟨Tryz.f102.name, by decide, Tryz.func102.trans (congrArg some (by kernel_rfl))⟩
  f28 := Tryz.func103.trans (congrArg some (by kernel_rfl))
  f29 := Tryz.func104.trans (congrArg some (by kernel_rfl))
  f46 := ⟨Tryz.f135.name, by decide, Tryz.func135.trans (congrArg some (by kernel_rfl))⟩
  f47 := Tryz.func136.trans (congrArg some (by kernel_rfl))
  f48 := Tryz.func137.trans (congrArg some (by kernel_rfl))
  f49 := ⟨Tryz.f138.name, by decide, Tryz.func138.trans (congrArg some (by kernel_rfl))⟩
  f50 := ⟨Tryz.f139.name, by decide, Tryz.func139.trans (congrArg some (by kernel_rfl))⟩
  f57 := ⟨Tryz.f158.name, by decide, Tryz.func158.trans (congrArg some (by kernel_rfl))⟩
  t0 := Tryz.underlying0
  a0 := Tryz.isAgg0
  z0 := Tryz.sizeOf0
  v0 := Tryz.zeroValue0
  t3 := Tryz.underlying3
  a3 := Tryz.isAgg3
  z3 := Tryz.sizeOf3
  v3 := Tryz.zeroValue3
  t4 := Tryz.underlying4
  a4 := Tryz.isAgg4
  z4 := Tryz.sizeOf4
  v4 := Tryz.zeroValue4
  t5 := Tryz.underlying5
  a5 := Tryz.isAgg5
  z5 := Tryz.sizeOf5
  v5 := Tryz.zeroValue5
  t9 := Tryz.underlying9
  a9 := Tryz.isAgg9
  z9 := Tryz.sizeOf9
  v9 := Tryz.zeroValue9
  t22 := Tryz.underlying39
  a22 := Tryz.isAgg39
  z22 := Tryz.sizeOf39
  v22 := Tryz.zeroValue39
  t25 := Tryz.underlying78
  a25 := Tryz.isAgg78
  z25 := Tryz.sizeOf78
  v25 := Tryz.zeroValue78
  t39 := Tryz.underlying134
  a39 := Tryz.isAgg134
  z39 := Tryz.sizeOf134
  v39 := Tryz.zeroValue134
  t45 := Tryz.underlying172
  a45 := Tryz.isAgg172
  z45 := Tryz.sizeOf172
  v45 := Tryz.zeroValue172
  t46 := Tryz.underlying173
  a46 := Tryz.isAgg173
  z46 := Tryz.sizeOf173
  v46 := Tryz.zeroValue173
  t50 := Tryz.underlying105
  a50 := Tryz.isAgg105
  z50 := Tryz.sizeOf105
  v50 := Tryz.zeroValue105
  t53 := Tryz.underlying179
  a53 := Tryz.isAgg179
  z53 := Tryz.sizeOf179
  v53 := Tryz.zeroValue179
  t55 := Tryz.underlying181
  a55 := Tryz.isAgg181
  z55 := Tryz.sizeOf181
  v55 := Tryz.zeroValue181
  t66 := Tryz.underlying210
  a66 := Tryz.isAgg210
  z66 := Tryz.sizeOf210
  v66 := Tryz.zeroValue210
  t70 := Tryz.underlying214
  a70 := Tryz.isAgg214
  z70 := Tryz.sizeOf214
  v70 := Tryz.zeroValue214
  t76 := Tryz.underlying228
  a76 := Tryz.isAgg228
  z76 := Tryz.sizeOf228
  v76 := Tryz.zeroValue228
  t77 := Tryz.underlying229
  a77 := Tryz.isAgg229
  z77 := Tryz.sizeOf229
  v77 := Tryz.zeroValue229 }
def Tryz.sort89_ren : Go.Shelf.Ren := ⟨fun | 6 => 89 | 15 => 64 | 14 => 125 | 28 => 103 | 29 => 104 | 20 => 147 | 21 => 148 | 22 => 149 | 23 => 150 | 24 => 151 | 25 => 152 | 26 => 153 | 27 => 154 | 46 => 162 | 47 => 136 | 48 => 137 | 49 => 163 | 50 => 164 | 57 => 174 | n => n, fun | 22 => 82 | 24 => 86 | 25 => 168 | 3 => 3 | 39 => 134 | 0 => 0 | 53 => 179 | 55 => 181 | 4 => 4 | 46 => 173 | 45 => 172 | 50 => 105 | 5 => 5 | 9 => 9 | 66 => 210 | 70 => 214 | 76 => 228 | 77 => 229 | n => n, fun | n => n⟩
theorem Tryz.sort89 : Go.Proofs.SlLaysF0.n6 Tryz.prog Tryz.sort89_ren := {
  mixed := by kernel_rfl
  f6 := ⟨Tryz.f89.name, by decide, Tryz.func89.trans (congrArg some (by kernel_rfl))⟩
  f14 := ⟨Tryz.f125.name, by decide, Tryz.func125.trans (congrArg some (by kernel_rfl))⟩
  f15 := Tryz.func64.trans (congrArg some (by kernel_rfl))
  f20 := ⟨Tryz.f147.name, by decide, Tryz.func147.trans (congrArg some (by kernel_rfl))⟩
  f21 := ⟨Tryz.f148.name, by decide, Tryz.func148.trans (congrArg some (by kernel_rfl))⟩
  f22 := ⟨Tryz.f149.name, by decide, Tryz.func149.trans (congrArg some (by kernel_rfl))⟩
  f23 := ⟨Tryz.f150.name, by decide, Tryz.func150.trans (congrArg some (by kernel_rfl))⟩
  f24 := ⟨Tryz.f151.name, by decide, Tryz.func151.trans (congrArg some (by kernel_rfl))⟩
  f25 := ⟨Tryz.f152.name, by decide, Tryz.func152.trans (congrArg some (by kernel_rfl))⟩
  f26 := ⟨Tryz.f153.name, by decide, Tryz.func153.trans (congrArg some (by kernel_rfl))⟩
  f27 := ⟨Tryz.f154.name, by decide, Tryz.func154.trans (congrArg some (by kernel_rfl))⟩
  f28 := Tryz.func103.trans (congrArg some (by kernel_rfl))
  f29 := Tryz.func104.trans (congrArg some (by kernel_rfl))
  f46 := ⟨Tryz.f162.name, by decide, Tryz.func162.trans (congrArg some (by kernel_rfl))⟩
  f47 := Tryz.func136.trans (congrArg some (by kernel_rfl))
  f48 := Tryz.func137.trans (congrArg some (by kernel_rfl))
  f49 := ⟨Tryz.f163.name, by decide, Tryz.func163.trans (congrArg some (by kernel_rfl))⟩
  f50 := ⟨Tryz.f164.name, by decide, Tryz.func164.trans (congrArg some (by kernel_rfl))⟩
  f57 := ⟨Tryz.f174.name, by decide, Tryz.func174.trans (congrArg some (by kernel_rfl))⟩
  t0 := Tryz.underlying0
  a0 := Tryz.isAgg0
  z0 := Tryz.sizeOf0
  v0 := Tryz.zeroValue0
  t3 := Tryz.underlying3
  a3 := Tryz.isAgg3
  z3 := Tryz.sizeOf3
  v3 := Tryz.zeroValue3
  t4 := Tryz.underlying4
  a4 := Tryz.isAgg4
  z4 := Tryz.sizeOf4
  v4 := Tryz.zeroValue4
  t5 := Tryz.underlying5
  a5 := Tryz.isAgg5
  z5 := Tryz.sizeOf5
  v5 := Tryz.zeroValue5
  t9 := Tryz.underlying9
  a9 := Tryz.isAgg9
  z9 := Tryz.sizeOf9
  v9 := Tryz.zeroValue9
  t22 := Tryz.underlying82
  a22 := Tryz.isAgg82
  z22 := Tryz.sizeOf82
  v22 := Tryz.zeroValue82
  t25 := Tryz.underlying168
  a25 := Tryz.isAgg168
  z25 := Tryz.sizeOf168
  v25 := Tryz.zeroValue168
  t39 := Tryz.underlying134
  a39 := Tryz.isAgg134
  z39 := Tryz.sizeOf134
  v39 := Tryz.zeroValue134
  t45 := Tryz.underlying172
  a45 := Tryz.isAgg172
  z45 := Tryz.sizeOf172
  v45 := Tryz.zeroValue172
  t46 := Tryz.underlying173
  a46 := Tryz.isAgg173
  z46 := Tryz.sizeOf173
  v46 := Tryz.zeroValue173
  t50 := Tryz.underlying105
  a50 := Tryz.isAgg105
  z50 := Tryz.sizeOf105
  v50 := Tryz.zeroValue105
  t53 := Tryz.underlying179
  a53 := Tryz.isAgg179
  z53 := Tryz.sizeOf179
  v53 := Tryz.zeroValue179
  t55 := Tryz.underlying181
  a55 := Tryz.isAgg181
  z55 := Tryz.sizeOf181
  v55 := Tryz.zeroValue181
  t66 := Tryz.underlying210
  a66 := Tryz.isAgg210
  z66 := Tryz.sizeOf210
  v66 := Tryz.zeroValue210
  t70 := Tryz.underlying214
  a70 := Tryz.isAgg214
  z70 := Tryz.sizeOf214
  v70 := Tryz.zeroValue214
  t76 := Tryz.underlying228
  a76 := Tryz.isAgg228
  z76 := Tryz.sizeOf228
  v76 := Tryz.zeroValue228
  t77 := Tryz.underlying229
  a77 := Tryz.isAgg229
  z77 := Tryz.sizeOf229
  v77 := Tryz.zeroValue229 }
def Tryz.sort141_ren : Go.Shelf.Ren := ⟨fun | 6 => 141 | 15 => 64 | 14 => 160 | 28 => 103 | 29 => 104 | 20 => 166 | 21 => 167 | 22 => 168 | 23 => 169 | 24 => 170 | 25 => 171 | 26 => 172 | 27 => 173 | 46 => 175 | 47 => 136 | 48 => 137 | 49 => 176 | 50 => 177 | 57 => 178 | n => n, fun | 22 => 30 | 24 => 35 | 25 => 111 | 3 => 3 | 39 => 134 | 0 => 0 | 53 => 179 | 55 => 181 | 4 => 4 | 46 => 173 | 45 => 172 | 50 => 105 | 5 => 5 | 9 => 9 | 66 => 210 | 70 => 214 | 76 => 228 | 77 => 229 | n => n, fun | n => n⟩
theorem Tryz.sort141 : Go.Proofs.SlLaysF0.n6 Tryz.prog Tryz.sort141_ren := {
  mixed := by kernel_rfl
  f6 := ⟨Tryz.f141.name, by decide, Tryz.func141.trans (congrArg some (by kernel_rfl))⟩
  f14 := ⟨Tryz.f160.name, by decide, Tryz.func160.trans (congrArg some (by kernel_rfl))⟩
  f15 := Tryz.func64.trans (congrArg some (by kernel_rfl))
  f20 := ⟨Tryz.f166.name, by decide, Tryz.func166.trans (congrArg some (by kernel_rfl))⟩
  f21 := ⟨Tryz.f167.name, by decide, Tryz.func167.trans (congrArg some (by kernel_rfl))⟩
  f22 := ⟨Tryz.f168.name, by decide, Tryz.func168.trans (congrArg some (by kernel_rfl))⟩
  f23 := ⟨Tryz.f169.name, by decide, Tryz.func169.trans (congrArg some (by kernel_rfl))⟩
  f24 := ⟨Tryz.f170.name, by decide, Tryz.func170.trans (congrArg some (by kernel_rfl))⟩
  f25 := ⟨Tryz.f171.name, by decide, Tryz.func171.trans (congrArg some (by kernel_rfl))⟩
  f26 := ⟨Tryz.f172.name, by decide, Tryz.func172.trans (congrArg some (by kernel_rfl))⟩
  f27 := ⟨Tryz.f173.name, by decide, Tryz.func173.trans (congrArg some (by kernel_rfl))⟩
  f28 := Tryz.func103.trans (congrArg some (by kernel_rfl))
  f29 := Tryz.func104.trans (congrArg some (by kernel_rfl))
  f46 := ⟨Tryz.f175.name, by decide, Tryz.func175.trans (congrArg some (by kernel_rfl))⟩
  f47 := Tryz.func136.trans (congrArg some (by kernel_rfl))
  f48 := Tryz.func137.trans (congrArg some (by kernel_rfl))
  f49 := ⟨Tryz.f176.name, by decide, Tryz.func176.trans (congrArg some (by kernel_rfl))⟩
  f50 := ⟨Tryz.f177.name, by decide, Tryz.func177.trans (congrArg some (by kernel_rfl))⟩
  f57 := ⟨Tryz.f178.name, by decide, Tryz.func178.trans (congrArg some (by kernel_rfl))⟩
  t0 := Tryz.underlying0
  a0 := Tryz.isAgg0
  z0 := Tryz.sizeOf0
  v0 := Tryz.zeroValue0
  t3 := Tryz.underlying3
  a3 := Tryz.isAgg3
  z3 := Tryz.sizeOf3
  v3 := Tryz.zeroValue3
  t4 := Tryz.underlying4
  a4 := Tryz.isAgg4
  z4 := Tryz.sizeOf4
  v4 := Tryz.zeroValue4
  t5 := Tryz.underlying5
  a5 := Tryz.isAgg5
  z5 := Tryz.sizeOf5
  v5 := Tryz.zeroValue5
  t9 := Tryz.underlying9
  a9 := Tryz.isAgg9
  z9 := Tryz.sizeOf9
  v9 := Tryz.zeroValue9
  t22 := Tryz.underlying30
  a22 := Tryz.isAgg30
  z22 := Tryz.sizeOf30
  v22 := Tryz.zeroValue30
  t25 := Tryz.underlying111
  a25 := Tryz.isAgg111
  z25 := Tryz.sizeOf111
  v25 := Tryz.zeroValue111
  t39 := Tryz.underlying134
  a39 := Tryz.isAgg134
  z39 := Tryz.sizeOf134
  v39 := Tryz.zeroValue134
  t45 := Tryz.underlying172
  a45 := Tryz.isAgg172
  z45 := Tryz.sizeOf172
  v45 := Tryz.zeroValue172
  t46 := Tryz.underlying173
  a46 := Tryz.isAgg173
  z46 := Tryz.sizeOf173
  v46 := Tryz.zeroValue173
  t50 := Tryz.underlying105
  a50 := Tryz.isAgg105
  z50 := Tryz.sizeOf105
  v50 := Tryz.zeroValue105
  t53 := Tryz.underlying179
  a53 := Tryz.isAgg179
  z53 := Tryz.sizeOf179
  v53 := Tryz.zeroValue179
  t55 := Tryz.underlying181
  a55 := Tryz.isAgg181
  z55 := Tryz.sizeOf181
  v55 := Tryz.zeroValue181
  t66 := Tryz.underlying210
  a66 := Tryz.isAgg210
  z66 := Tryz.sizeOf210
  v66 := Tryz.zeroValue210
  t70 := Tryz.underlying214
  a70 := Tryz.isAgg214
  z70 := Tryz.sizeOf214
  v70 := Tryz.zeroValue214
  t76 := Tryz.underlying228
  a76 := Tryz.isAgg228
  z76 := Tryz.sizeOf228
  v76 := Tryz.zeroValue228
  t77 := Tryz.underlying229
  a77 := Tryz.isAgg229
  z77 := Tryz.sizeOf229
  v77 := Tryz.zeroValue229 }
def Tryz.sort50_ren : Go.Shelf.Ren := ⟨fun | 6 => 50 | 15 => 64 | 14 => 85 | 28 => 103 | 29 => 104 | 20 => 117 | 21 => 118 | 22 => 119 | 23 => 120 | 24 => 121 | 25 => 122 | 26 => 123 | 27 => 124 | 46 => 144 | 47 => 136 | 48 => 137 | 49 => 145 | 50 => 146 | 57 => 161 | n => n, fun | 22 => 72 | 24 => 76 | 25 => 121 | 3 => 3 | 39 => 134 | 0 => 0 | 53 => 179 | 55 => 181 | 4 => 4 | 46 => 173 | 45 => 172 | 50 => 105 | 5 => 5 | 9 => 9 | 66 => 210 | 70 => 214 | 76 => 228 | 77 => 229 | n => n, fun | n => n⟩
theorem Tryz.sort50 : Go.Proofs.SlLaysF0.n6 Tryz.prog Tryz.sort50_ren := {
  mixed := by kernel_rfl
  f6 := ⟨Tryz.f50.name, by decide, Tryz.func50.trans (congrArg some (by kernel_rfl))⟩
  f14 := ⟨Tryz.f85.name, by decide, Tryz.func85.trans (congrArg some (by kernel_rfl))⟩
  f15 := Tryz.func64.trans (congrArg some (by kernel_rfl))
  f20 := ⟨Tryz.f117.name, by decide, Tryz.func117.trans (congrArg some (by kernel_rfl))⟩
  f21 := ⟨Tryz.f118.name, by decide, Tryz.func118.trans (congrArg some (by kernel_rfl))⟩
  f22 := ⟨Tryz.f119.name, by decide, Tryz.func119.trans (congrArg some (by kernel_rfl))⟩
  f23 := ⟨Tryz.f120.name, by decide, Tryz.func120.trans (congrArg some (by kernel_rfl))⟩
  f24 := ⟨Tryz.f121.name, by decide, Tryz.func121.trans (congrArg some (by kernel_rfl))⟩
  f25 := ⟨Tryz.f122.name, by decide, Tryz.func122.trans (congrArg some (by kernel_rfl))⟩
  f26 := ⟨Tryz.f123.name, by decide, Tryz.func123.trans (congrArg some (by kernel_rfl))⟩
  f27 := ⟨Tryz.f124.name, by decide, Tryz.func124.trans (congrArg some (by kernel_rfl))⟩
  f28 := Tryz.func103.trans (congrArg some (by kernel_rfl))
  f29 := Tryz.func104.trans (congrArg some (by kernel_rfl))
  f46 := ⟨Tryz.f144.name, by decide, Tryz.func144.trans (congrArg some (by kernel_rfl))⟩
  f47 := Tryz.func136.trans (congrArg some (by kernel_rfl))
  f48 := Tryz.func137.trans (congrArg some (by kernel_rfl))
  f49 := ⟨Tryz.f145.name, by decide, Tryz.func145.trans (congrArg some (by kernel_rfl))⟩
  f50 := ⟨Tryz.f146.name, by decide, Tryz.func146.trans (congrArg some (by kernel_rfl))⟩
  f57 := ⟨Tryz.f161.name, by decide, Tryz.func161.trans (congrArg some (by kernel_rfl))⟩
  t0 := Tryz.underlying0
  a0 := Tryz.isAgg0
  z0 := Tryz.sizeOf0
  v0 := Tryz.zeroValue0
  t3 := Tryz.underlying3
  a3 := Tryz.isAgg3
  z3 := Tryz.sizeOf3
  v3 := Tryz.zeroValue3
  t4 := Tryz.underlying4
  a4 := Tryz.isAgg4
  z4 := Tryz.sizeOf4
  v4 := Tryz.zeroValue4
  t5 := Tryz.underlying5
  a5 := Tryz.isAgg5
  z5 := Tryz.sizeOf5
  v5 := Tryz.zeroValue5
  t9 := Tryz.underlying9
  a9 := Tryz.isAgg9
  z9 := Tryz.sizeOf9
  v9 := Tryz.zeroValue9
  t22 := Tryz.underlying72
  a22 := Tryz.isAgg72
  z22 := Tryz.sizeOf72
  v22 := Tryz.zeroValue72
  t25 := Tryz.underlying121
  a25 := Tryz.isAgg121
  z25 := Tryz.sizeOf121
  v25 := Tryz.zeroValue121
  t39 := Tryz.underlying134
  a39 := Tryz.isAgg134
  z39 := Tryz.sizeOf134
  v39 := Tryz.zeroValue134
  t45 := Tryz.underlying172
  a45 := Tryz.isAgg172
  z45 := Tryz.sizeOf172
  v45 := Tryz.zeroValue172
  t46 := Tryz.underlying173
  a46 := Tryz.isAgg173
  z46 := Tryz.sizeOf173
  v46 := Tryz.zeroValue173
  t50 := Tryz.underlying105
  a50 := Tryz.isAgg105
  z50 := Tryz.sizeOf105
  v50 := Tryz.zeroValue105
  t53 := Tryz.underlying179
  a53 := Tryz.isAgg179
  z53 := Tryz.sizeOf179
  v53 := Tryz.zeroValue179
  t55 := Tryz.underlying181
  a55 := Tryz.isAgg181
  z55 := Tryz.sizeOf181
  v55 := Tryz.zeroValue181
  t66 := Tryz.underlying210
  a66 := Tryz.isAgg210
  z66 := Tryz.sizeOf210
  v66 := Tryz.zeroValue210
  t70 := Tryz.underlying214
  a70 := Tryz.isAgg214
  z70 := Tryz.sizeOf214
  v70 := Tryz.zeroValue214
  t76 := Tryz.underlying228
  a76 := Tryz.isAgg228
  z76 := Tryz.sizeOf228
  v76 := Tryz.zeroValue228
  t77 := Tryz.underlying229
  a77 := Tryz.isAgg229
  z77 := Tryz.sizeOf229
  v77 := Tryz.zeroValue229 }
end Go.Proofs
/-
  DERIVED: THE SHELF's CONTRACTS AT THIS DUMP, IN PLAIN WORDS (tools/lay-plain.mjs out of 'ZUp.lean', which tools/lay-shelf.mjs wrote): THE SAME DECLARATIONS UNDER THE SAME NAMES: 'import', 'namespace', 'open', 'def', 'theorem' AND NOTHING ELSE: no command of the shelf's: FOR A HAND-IN. Each laying: the table of numbers ('.._ren') and one theorem, a field a fact of the dump's own or the kernel's comparison; each contract: ONE APPLICATION.
-/
namespace Go.Proofs
open Go.Shelf
def Tryz.grow62_ren : Go.Shelf.Ren := ⟨fun | 4 => 62 | n => n, fun | 22 => 36 | 25 => 3 | 3 => 3 | 4 => 4 | 9 => 9 | 20 => 20 | 0 => 0 | n => n, fun | n => n⟩
theorem Tryz.grow62 : Go.Proofs.Lays8.n4 Tryz.prog Tryz.grow62_ren := {
  mixed := by kernel_rfl
  f4 := ⟨Tryz.f62.name, by decide, Tryz.func62.trans (congrArg some (by kernel_rfl))⟩
  t0 := Tryz.underlying0
  a0 := Tryz.isAgg0
  z0 := Tryz.sizeOf0
  v0 := Tryz.zeroValue0
  t3 := Tryz.underlying3
  a3 := Tryz.isAgg3
  z3 := Tryz.sizeOf3
  v3 := Tryz.zeroValue3
  t4 := Tryz.underlying4
  a4 := Tryz.isAgg4
  z4 := Tryz.sizeOf4
  v4 := Tryz.zeroValue4
  t9 := Tryz.underlying9
  a9 := Tryz.isAgg9
  z9 := Tryz.sizeOf9
  v9 := Tryz.zeroValue9
  t20 := Tryz.underlying20
  a20 := Tryz.isAgg20
  z20 := Tryz.sizeOf20
  v20 := Tryz.zeroValue20
  t22 := Tryz.underlying36
  a22 := Tryz.isAgg36
  z22 := Tryz.sizeOf36
  v22 := Tryz.zeroValue36 }
def Tryz.sort60_ren : Go.Shelf.Ren := ⟨fun | 5 => 60 | 8 => 64 | 7 => 94 | 19 => 103 | 20 => 104 | 10 => 126 | 11 => 127 | 12 => 128 | 13 => 129 | 14 => 130 | 15 => 131 | 16 => 132 | 17 => 133 | 18 => 134 | 30 => 155 | 31 => 136 | 32 => 137 | 33 => 156 | 34 => 157 | 35 => 86 | 40 => 165 | n => n, fun | 23 => 36 | 25 => 3 | 3 => 3 | 32 => 134 | 22 => 36 | 0 => 0 | 44 => 179 | 46 => 181 | 4 => 4 | 36 => 173 | 35 => 172 | 41 => 105 | 5 => 5 | 9 => 9 | 53 => 210 | 57 => 214 | 63 => 228 | 64 => 229 | n => n, fun | n => n⟩
theorem Tryz.sort60 : Go.Proofs.SlLaysM.n5 Tryz.prog Tryz.sort60_ren := {
  mixed := by kernel_rfl
  f5 := ⟨Tryz.f60.name, by decide, Tryz.func60.trans (congrArg some (by kernel_rfl))⟩
  f7 := ⟨Tryz.f94.name, by decide, Tryz.func94.trans (congrArg some (by kernel_rfl))⟩
  f8 := Tryz.func64.trans (congrArg some (by kernel_rfl))
  f10 := ⟨Tryz.f126.name, by decide, Tryz.func126.trans (congrArg some (by kernel_rfl))⟩
  f11 := ⟨Tryz.f127.name, by decide, Tryz.func127.trans (congrArg some (by kernel_rfl))⟩
  f12 := ⟨Tryz.f128.name, by decide, Tryz.func128.trans (congrArg some (by kernel_rfl))⟩
  f13 := ⟨Tryz.f129.name, by decide, Tryz.func129.trans (congrArg some (by kernel_rfl))⟩
  f14 := ⟨Tryz.f130.name, by decide, Tryz.func130.trans (congrArg some (by kernel_rfl))⟩
  f15 := ⟨Tryz.f131.name, by decide, Tryz.func131.trans (congrArg some (by kernel_rfl))⟩
  f16 := ⟨Tryz.f132.name, by decide, Tryz.func132.trans (congrArg some (by kernel_rfl))⟩
  f17 := ⟨Tryz.f133.name, by decide, Tryz.func133.trans (congrArg some (by kernel_rfl))⟩
  f18 := ⟨Tryz.f134.name, by decide, Tryz.func134.trans (congrArg some (by kernel_rfl))⟩
  f19 := Tryz.func103.trans (congrArg some (by kernel_rfl))
  f20 := Tryz.func104.trans (congrArg some (by kernel_rfl))
  f30 := ⟨Tryz.f155.name, by decide, Tryz.func155.trans (congrArg some (by kernel_rfl))⟩
  f31 := Tryz.func136.trans (congrArg some (by kernel_rfl))
  f32 := Tryz.func137.trans (congrArg some (by kernel_rfl))
  f33 := ⟨Tryz.f156.name, by decide, Tryz.func156.trans (congrArg some (by kernel_rfl))⟩
  f34 := ⟨Tryz.f157.name, by decide, Tryz.func157.trans (congrArg some (by kernel_rfl))⟩
  f35 := ⟨Tryz.f86.name, by decide, Tryz.func86.trans (congrArg some (by kernel_rfl))⟩
  f40 := ⟨Tryz.f165.name, by decide, Tryz.func165.trans (congrArg some (by kernel_rfl))⟩
  t0 := Tryz.underlying0
  a0 := Tryz.isAgg0
  z0 := Tryz.sizeOf0
  v0 := Tryz.zeroValue0
  t3 := Tryz.underlying3
  a3 := Tryz.isAgg3
  z3 := Tryz.sizeOf3
  v3 := Tryz.zeroValue3
  t4 := Tryz.underlying4
  a4 := Tryz.isAgg4
  z4 := Tryz.sizeOf4
  v4 := Tryz.zeroValue4
  t5 := Tryz.underlying5
  a5 := Tryz.isAgg5
  z5 := Tryz.sizeOf5
  v5 := Tryz.zeroValue5
  t9 := Tryz.underlying9
  a9 := Tryz.isAgg9
  z9 := Tryz.sizeOf9
  v9 := Tryz.zeroValue9
  t22 := Tryz.underlying36
  a22 := Tryz.isAgg36
  z22 := Tryz.sizeOf36
  v22 := Tryz.zeroValue36
  t23 := Tryz.underlying36
  a23 := Tryz.isAgg36
  z23 := Tryz.sizeOf36
  v23 := Tryz.zeroValue36
  t25 := Tryz.underlying3
  a25 := Tryz.isAgg3
  z25 := Tryz.sizeOf3
  v25 := Tryz.zeroValue3
  t32 := Tryz.underlying134
  a32 := Tryz.isAgg134
  z32 := Tryz.sizeOf134
  v32 := Tryz.zeroValue134
  t35 := Tryz.underlying172
  a35 := Tryz.isAgg172
  z35 := Tryz.sizeOf172
  v35 := Tryz.zeroValue172
  t36 := Tryz.underlying173
  a36 := Tryz.isAgg173
  z36 := Tryz.sizeOf173
  v36 := Tryz.zeroValue173
  t41 := Tryz.underlying105
  a41 := Tryz.isAgg105
  z41 := Tryz.sizeOf105
  v41 := Tryz.zeroValue105
  t44 := Tryz.underlying179
  a44 := Tryz.isAgg179
  z44 := Tryz.sizeOf179
  v44 := Tryz.zeroValue179
  t46 := Tryz.underlying181
  a46 := Tryz.isAgg181
  z46 := Tryz.sizeOf181
  v46 := Tryz.zeroValue181
  t53 := Tryz.underlying210
  a53 := Tryz.isAgg210
  z53 := Tryz.sizeOf210
  v53 := Tryz.zeroValue210
  t57 := Tryz.underlying214
  a57 := Tryz.isAgg214
  z57 := Tryz.sizeOf214
  v57 := Tryz.zeroValue214
  t63 := Tryz.underlying228
  a63 := Tryz.isAgg228
  z63 := Tryz.sizeOf228
  v63 := Tryz.zeroValue228
  t64 := Tryz.underlying229
  a64 := Tryz.isAgg229
  z64 := Tryz.sizeOf229
  v64 := Tryz.zeroValue229 }
end Go.Proofs
namespace Go.Proofs.YtegcmciglakicaaGreat
open Go.RowKit Go.Exe
theorem aggOf {P : Program} {t : TypeId} {n : Nat} (ht : TI P t = some (true, n)) (w : World) : (isAgg t).run P w = .ok true w := by
  obtain ⟨i, d, hi, hd, hg, hn⟩ := TI_spec ht
  unfold isAgg
  simp only [Sem.run_bind, run_underlying hd, Result.andThen_ok]
  rw [← hg]
  cases d <;> rfl
theorem sizeOf_ {P : Program} {t : TypeId} {g : Bool} {n : Nat} (ht : TI P t = some (g, n)) (w : World) : (Go.sizeOf t).run P w = .ok n w := by
  obtain ⟨i, d, h1, h2, h3, h4⟩ := TI_spec ht
  simp [sizeOf, typeInfo, h1, h4]
theorem sort36_c : SortC Tryz.prog 36 3 := sortC_of Tryz.sort36 3 (aggOf tI41) (sizeOf_ tI41) ⟨Tryz.f36, Tryz.func36, by kernel_rfl, by kernel_rfl⟩
theorem sort89_c : SortC Tryz.prog 89 2 := sortC_of Tryz.sort89 2 (aggOf tI86) (sizeOf_ tI86) ⟨Tryz.f89, Tryz.func89, by kernel_rfl, by kernel_rfl⟩
theorem sort141_c : SortC Tryz.prog 141 14 := sortC_of Tryz.sort141 14 (aggOf tI35) (sizeOf_ tI35) ⟨Tryz.f141, Tryz.func141, by kernel_rfl, by kernel_rfl⟩
theorem sort60_c : SortI Tryz.prog 60 := ⟨⟨Tryz.f60, Tryz.func60, by kernel_rfl, by kernel_rfl⟩, fun p cap w => AnyM.slices_Sort_int_none Tryz.sort60 p cap w, fun blk cap zs w hH hb hn => AnyM.slices_Sort_int Tryz.sort60 blk 0 cap zs w hH hb hn⟩
theorem grow62_c : GrowC Tryz.prog 62 3 1 8 := by
  refine ⟨⟨Tryz.f62, Tryz.func62, by kernel_rfl, by kernel_rfl⟩, fun w => Any8.slices_Grow_room Tryz.grow62 none 0 0 0 w (Nat.le_refl _) (by decide) (by decide) (Nat.le_refl _), fun n w h0 h1 h2 => ?_⟩
  obtain ⟨i0, hi0, hsz, hbs⟩ := EInfo_spec tE3
  obtain ⟨i1, z, hi1, hz, hzs, _⟩ := ZV_spec tZ3
  obtain rfl : i0 = i1 := by rw [hi0] at hi1; exact Option.some.inj hi1
  have hzz : z.cells.size = 1 := by rw [← Array.length_toList, hzs]; rfl
  have hb1 : n * i0.bytes ≤ 140737488355328 := by rw [hbs]; exact h1
  refine (Any8.slices_Grow_grow Tryz.grow62 i0 z hi0 hz (by rw [hsz]; exact Nat.zero_lt_one) none 0 0 n [] w (Nat.le_refl _) (by omega) (by rw [Nat.zero_add]; exact hb1) (by omega) (by simp) (fun _ => rfl) (fun a ha => by cases ha)).mono fun ed w' ⟨e1, e2⟩ => ?_
  obtain ⟨G, hG⟩ : ∃ G, G = Go.grownCap w (0 + n) 0 (Tryz.grow62_ren.t 25) := ⟨_, rfl⟩
  have hge := Go.grownCap_ge w (0 + n) 0 (Tryz.grow62_ren.t 25)
  have hle := Go.grownCap_le_maxLen w (0 + n) 0 (Tryz.grow62_ren.t 25) (by unfold maxLen; omega)
  refine ⟨_, _, e1, hle, ?_, e2⟩
  have hzc : ∀ m, (Builtin.zeroCells z.cells m).size = m := fun m => by simp [Builtin.zeroCells, hzz]
  simp only [Array.size_append, hzc, Nat.zero_add] at hge ⊢
  simp only [List.size_toArray, List.length_nil]
  omega
end Go.Proofs.YtegcmciglakicaaGreat
