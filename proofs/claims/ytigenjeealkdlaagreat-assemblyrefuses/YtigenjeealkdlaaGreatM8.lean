/-
  AssemblyRefuses: at every family and every list of spans the law answers true: Add returns the first error, and adds nothing with an error.
-/
import Derived.Test.YtigenjeealkdlaaGreatM7
import Derived.Shelf.SlSortCmp.WholeK
import Derived.Shelf.SlSortCmp.NoneTotal
import Derived.Test.YtigenjeealkdlaaGreatProg
import Derived.Shelf.SlLaysF0
import Derived.Shelf.SlGeneric
import Derived.Ground.SlsfProg
import Derived.Shelf.Spec.SlicesGrow
import Derived.Ground.Names8Prog
import Derived.Shelf.SortM.Plain
import Derived.Shelf.SortM.SortNone
import Derived.Ground.SlgmProg
import Derived.Test.YtigenjeealkdlaaGreatM3
import Derived.Test.YtigenjeealkdlaaGreatRows
set_option linter.unusedVariables false
set_option linter.unusedSimpArgs false
set_option maxHeartbeats 8000000
set_option maxRecDepth 100000
namespace Go.Proofs.YtigenjeealkdlaaGreat
open Go.RowKit Go.Exe
/-! ### ref05.Sorted -/
def posU (out : List Int) (x : Int) : Nat := (out.takeWhile fun y => decide (y ≤ x)).length
def insU (out : List Int) (x : Int) : List Int := if x ∈ out then out else out.take (posU out x) ++ [x] ++ out.drop (posU out x)
def sortU (l : List Int) : List Int := l.foldl insU []
theorem posU_is {x : Int} : ∀ {out : List Int} {i : Nat}, i ≤ out.length → (∀ k y, k < i → out[k]? = some y → y ≤ x) → (∀ y, out[i]? = some y → x < y) → posU out x = i
  | [], i, h, _, _ => by simp at h; subst h; rfl
  | y :: r, 0, _, _, h => by
    have := h y rfl
    simp [posU, this]
  | y :: r, i + 1, hi, h1, h2 => by
    have hy := h1 0 y (by omega) rfl
    have ih := posU_is (x := x) (out := r) (i := i) (by simpa using hi) (fun k z hk hz => h1 (k + 1) z (by omega) (by simpa using hz)) (fun z hz => h2 z (by simpa using hz))
    unfold posU at ih ⊢
    rw [List.takeWhile_cons, if_pos (by simpa using hy), List.length_cons, ih]
theorem mem_tw {α : Type} {p : α → Bool} : ∀ {l : List α} {y : α}, y ∈ l.takeWhile p → p y = true
  | z :: r, y, h => by
    rw [List.takeWhile_cons] at h
    split at h
    · rename_i hz
      rcases List.mem_cons.1 h with rfl | h
      · exact hz
      · exact mem_tw h
    · cases h
theorem head_dw {α : Type} {p : α → Bool} : ∀ {l r : List α} {z : α}, l.dropWhile p = z :: r → p z = false
  | y :: l, r, z, h => by
    rw [List.dropWhile_cons] at h
    split at h
    · exact head_dw h
    · rename_i hy
      cases h
      simpa using hy
theorem insU_mem {out : List Int} {x y : Int} : y ∈ insU out x ↔ y ∈ out ∨ y = x := by
  unfold insU
  split
  · rename_i h
    constructor
    · exact .inl
    · rintro (h2 | rfl)
      · exact h2
      · exact h
  · rw [List.mem_append, List.mem_append, List.mem_singleton]
    have : y ∈ out ↔ y ∈ out.take (posU out x) ∨ y ∈ out.drop (posU out x) := by rw [← List.mem_append, List.take_append_drop]
    rw [this]
    constructor
    · rintro ((h | h) | h)
      · exact .inl (.inl h)
      · exact .inr h
      · exact .inl (.inr h)
    · rintro ((h | h) | h)
      · exact .inl (.inl h)
      · exact .inr h
      · exact .inl (.inr h)
theorem insU_srt {out : List Int} {x : Int} (h : out.Pairwise (· < ·)) : (insU out x).Pairwise (· < ·) := by
  unfold insU
  split
  · exact h
  · rename_i hx
    have ht : out.take (posU out x) = out.takeWhile fun y => decide (y ≤ x) := by
      have h1 : (out.takeWhile fun y => decide (y ≤ x)) <+: out := List.takeWhile_prefix _
      unfold posU
      exact (List.prefix_iff_eq_take.1 h1).symm
    have hd : out.drop (posU out x) = out.dropWhile fun y => decide (y ≤ x) := by
      have h2 := List.takeWhile_append_dropWhile (p := fun y => decide (y ≤ x)) (l := out)
      have h3 := List.take_append_drop (posU out x) out
      rw [ht] at h3
      exact List.append_cancel_left (h3.trans h2.symm)
    have hlt : ∀ y ∈ out.take (posU out x), y < x := fun y hy => by
      rw [ht] at hy
      have h1 := mem_tw hy
      have h2 : y ∈ out := (List.takeWhile_prefix _).subset hy
      have : y ≠ x := fun e => hx (e ▸ h2)
      simp at h1
      omega
    have hgt : ∀ y ∈ out.drop (posU out x), x < y := fun y hy => by
      rw [hd] at hy
      cases hdw : out.dropWhile (fun y => decide (y ≤ x)) with
      | nil => rw [hdw] at hy; cases hy
      | cons z r =>
        have hz : ¬ z ≤ x := by
          have := head_dw hdw
          simpa using this
        have hs : (z :: r).Pairwise (· < ·) := by rw [← hdw]; exact h.sublist (List.dropWhile_sublist _)
        rw [hdw] at hy
        rcases List.mem_cons.1 hy with rfl | hy
        · omega
        · have := (List.pairwise_cons.1 hs).1 y hy
          omega
    refine List.pairwise_append.2 ⟨List.pairwise_append.2 ⟨h.sublist (List.take_sublist _ _), by simp, fun a ha b hb => by simp at hb; subst hb; exact hlt a ha⟩, h.sublist (List.drop_sublist _ _), fun a ha b hb => ?_⟩
    have h5 := hgt b hb
    rcases List.mem_append.1 ha with ha | ha
    · have := hlt a ha; omega
    · simp at ha; subst ha; exact h5
theorem sortU_go : ∀ (l out : List Int), out.Pairwise (· < ·) → (l.foldl insU out).Pairwise (· < ·) ∧ ∀ y, y ∈ l.foldl insU out ↔ y ∈ out ∨ y ∈ l
  | [], out, h => ⟨h, fun y => by simp⟩
  | x :: r, out, h => by
    obtain ⟨h1, h2⟩ := sortU_go r (insU out x) (insU_srt h)
    refine ⟨h1, fun y => ?_⟩
    rw [List.foldl_cons, h2 y, insU_mem, List.mem_cons, or_assoc]
theorem sortU_srt (l : List Int) : (sortU l).Pairwise (· < ·) := (sortU_go l [] List.Pairwise.nil).1
theorem sortU_mem {l : List Int} {y : Int} : y ∈ sortU l ↔ y ∈ l := by have := (sortU_go l [] List.Pairwise.nil).2 y; unfold sortU; simpa using this
theorem lt_uniI {l m : List Int} (h1 : l.Pairwise (· < ·)) (h2 : m.Pairwise (· < ·)) (h : ∀ y, y ∈ l ↔ y ∈ m) : l = m :=
  List.Perm.eq_of_pairwise (fun a b _ _ h1 h2 => by omega) h1 h2 ((List.perm_ext_iff_of_nodup (h1.imp fun {a b} h => by omega) (h2.imp fun {a b} h => by omega)).2 h)
theorem insU_len (out : List Int) (x : Int) : (insU out x).length ≤ out.length + 1 := by
  unfold insU
  split
  · omega
  · rw [List.length_append, List.length_append, List.length_take, List.length_drop, List.length_singleton]; omega
theorem ins_at {out : List Int} {x : Int} {j : Nat} (hs : out.Pairwise (· < ·)) (hj : j ≤ out.length) (hlo : ∀ k y, k + 1 = j → out[k]? = some y → y < x) (hgt : ∀ y, out[j]? = some y → x < y) : insU out x = out.take j ++ [x] ++ out.drop j := by
  have hlow : ∀ k y, k < j → out[k]? = some y → y < x := fun k y hk hy => by
    obtain ⟨hkl, hye⟩ := List.getElem?_eq_some_iff.1 hy
    have h1 := hlo (j - 1) out[j - 1] (by omega) (List.getElem?_eq_getElem (by omega))
    by_cases e : k = j - 1
    · subst e; rw [← hye]; exact h1
    · have := List.pairwise_iff_getElem.1 hs k (j - 1) hkl (by omega) (by omega)
      omega
  have hhigh : ∀ k y, j ≤ k → out[k]? = some y → x < y := fun k y hk hy => by
    obtain ⟨hkl, hye⟩ := List.getElem?_eq_some_iff.1 hy
    have h1 := hgt out[j] (List.getElem?_eq_getElem (by omega))
    by_cases e : k = j
    · subst e; rw [← hye]; exact h1
    · have := List.pairwise_iff_getElem.1 hs j k (by omega) hkl (by omega)
      omega
  have hn : x ∉ out := fun h => by
    obtain ⟨k, hk⟩ := List.getElem?_of_mem h
    by_cases e : k < j
    · have := hlow k x e hk; omega
    · have := hhigh k x (by omega) hk; omega
  unfold insU
  rw [if_neg hn, posU_is hj (fun k y hk hy => by have := hlow k y hk hy; omega) hgt]
attribute [local irreducible] W AX Run RunD AStep AOp AOpX AStB AStH AStG Fits PCall GCall PostG Post Stop
theorem sorted16_c (l : List Int) : PCall Tryz.prog 16 [intsT l] (intsT (sortU l)) := by
  refine PCall.intro (nt := 60) (rs := [.tmp 2]) Tryz.func16 rfl ⟨by kernel_rfl, by kernel_rfl, by kernel_rfl⟩ (by simp) ?_
  rintro ⟨P, w0, ok0, may, np, pblk⟩ rfl rfl
  refine W.lenB 0 rfl tE3 fun hl0 hl1 => ?_
  rw [List.length_map] at hl1
  repeat' (first | refine W.seq fun K hK => ?_ | refine W.block ?_ | ((first | refine wR ?_ | refine wD ?_ | refine W.skip ?_ | refine W.exit ?_ | refine W.ret (Post.ret ?_) | refine aP ?_ | refine aF ?_); simp only [go_sem, reduceCtorEq]) | refine wT ?_ | refine wF ?_ | refine wC (fun h => ?_) (fun h => ?_) | refine iK ?_ | refine aI2 ?_ | (refine hK _ ?_; clear hK K) | clear hK K)
  refine W.loopF (T := fun i : Nat => { t := [(0, intsT l), (3, .c (.ref 0)), (4, ft (.int .i64 (i : Nat)))], h := [(0, .row 3 (imR (((l.take i).foldl insU []).map iA)))], nx := 1, ex := [], nt := 60 })
    (Inv := fun i => i ≤ l.length ∧ ((l.take i).foldl insU []).length ≤ i) (μ := fun i => l.length - i) (x0 := 0) ?_ ⟨Nat.zero_le _, by simp⟩ ?_
  · refine Fits.adopt 3 900 3 rfl rfl rfl tE3 rfl ?_
    refine Fits.fit [(900, 0)] [0, 3, 4] 1 rfl rfl ?_
    simp only [go_sem, List.take_zero, List.foldl_nil, List.map_nil, imR_nil]
    exact Fits.rfl
  rintro i ⟨hi, hol⟩ KL hKL
  by_cases hlt : i < l.length
  · obtain ⟨x, hx, hm, hd⟩ := drop_at hlt
    have e1 : decide ((i : Int) < l.length) = true := by simp; omega
    have hw := w64s i (by omega)
    have hsrt := (sortU_go (l.take i) [] List.Pairwise.nil).1
    have hst : (l.take (i + 1)).foldl insU [] = insU ((l.take i).foldl insU []) x := by rw [List.take_add_one, hx]; simp [List.foldl_append]
    have hil := insU_len ((l.take i).foldl insU []) x
    have hKL2 := fun (s' : St) h => hKL.to (s' := s') (i + 1) ⟨by omega, by rw [hst]; omega⟩ (by omega) h
    rw [hst] at hKL2
    clear hKL hst
    generalize (l.take i).foldl insU [] = out at *
    repeat' (first | refine W.seq fun K hK => ?_ | refine W.block ?_ | ((first | refine wR ?_ | refine wD ?_ | refine W.skip ?_ | refine W.exit ?_ | refine W.ret (Post.ret ?_) | refine aP ?_ | refine aF ?_); simp only [go_sem, reduceCtorEq, e1, List.length_map, imR_len]) | refine wT ?_ | refine wF ?_ | refine wC (fun h => ?_) (fun h => ?_) | refine iK ?_ | refine aI2 ?_ | (refine hK _ ?_; clear hK K) | clear hK K)
    refine W.loopF (T := fun j : Nat => { t := [(0, intsT l), (3, .c (.ref 0)), (4, ft (.int .i64 (i : Nat))), (5, ft (.int .i64 (j : Nat)))], h := [(0, .row 3 (imR (out.map iA)))], nx := 1, ex := [], nt := 60 })
      (Inv := fun j => j ≤ out.length ∧ ∀ y, out[j]? = some y → x < y) (μ := fun j => j) (x0 := out.length) ?_ ⟨Nat.le_refl _, fun y h => by rw [List.getElem?_eq_none (Nat.le_refl _)] at h; cases h⟩ ?_
    · refine Fits.fit [(0, 0)] [0, 3, 4, 5] 1 rfl rfl ?_
      simp only [go_sem]
      exact Fits.rfl
    rintro j ⟨hj, hgt⟩ KJ hKJ
    rcases j with _ | k
    · have f1 : decide (((0 : Nat) : Int) > 0) = false := by decide
      have f3 : decide (0 ≤ out.length) = true := by simp
      have f6 : decide (out.length ≤ out.length) = true := by simp
      have hins := ins_at hsrt (Nat.zero_le _) (fun k y h _ => by omega) hgt
      clear hKJ
      repeat' (first | refine W.seq fun K hK => ?_ | refine W.block ?_ | ((first | refine wR ?_ | refine wD ?_ | refine W.skip ?_ | refine W.exit ?_ | refine W.ret (Post.ret ?_) | refine aP ?_ | refine aF ?_); simp only [go_sem, reduceCtorEq, List.getElem?_map, hx, iA, e1, f1, f3, f6, hw, List.length_map, imR_len, imL, Nat.sub_zero, Nat.zero_add, List.length_take, List.length_drop]) | refine wT ?_ | refine wF ?_ | refine wC (fun h => ?_) (fun h => ?_) | refine iK ?_ | refine aI2 ?_ | (refine hK _ ?_; clear hK K) | clear hK K)
      have hrow : imR ((insU out x).map iA) = [Cell.im (AV.flat (Value.int .i64 x))] :: imR (List.take out.length (List.map iA out)) := by rw [hins]; simp [imR, imL, iA, List.take_of_length_le]
      refine hKL2 _ (Fits.fit [(43, 0)] [0, 3, 4] 1 rfl rfl ?_)
      simp only [go_sem, hrow]
      exact Fits.rfl
    · obtain ⟨y, hy, hym, _⟩ := drop_at (show k < out.length by omega)
      have f1 : decide (((k + 1 : Nat) : Int) > 0) = true := by rw [decide_eq_true_eq]; omega
      have hw1 : IntKind.i64.wrap (((k + 1 : Nat) : Int) - 1) = ((k : Nat) : Int) := by rw [w64 (by omega) (by omega)]; omega
      have f2 : decide (k < out.length) = true := by simp; omega
      have f4 : decide (k + 1 ≤ out.length) = true := by simp; omega
      have f5 : decide (k + 1 + (out.length - (k + 1)) ≤ out.length) = true := by simp; omega
      cases h1 : decide (y > x) with
      | true =>
        repeat' (first | refine W.seq fun K hK => ?_ | refine W.block ?_ | ((first | refine wR ?_ | refine wD ?_ | refine W.skip ?_ | refine W.exit ?_ | refine W.ret (Post.ret ?_) | refine aP ?_ | refine aF ?_); simp only [go_sem, reduceCtorEq, List.getElem?_map, hx, hy, iA, e1, f1, f2, hw1, h1, List.length_map, imR_len, imR_get, imL, List.map]) | refine wT ?_ | refine wF ?_ | refine wC (fun h => ?_) (fun h => ?_) | refine iK ?_ | refine aI2 ?_ | (refine hK _ ?_; clear hK K) | clear hK K)
        refine hKJ.to k ⟨by omega, fun z hz => by rw [hy] at hz; cases hz; simpa using h1⟩ (Nat.lt_succ_self k) (Fits.fit [(0, 0)] [0, 3, 4, 5] 1 rfl rfl ?_)
        simp only [go_sem]
        exact Fits.rfl
      | false =>
        cases h2 : (y == x) with
        | true =>
          have h3 : y = x := by simpa using h2
          have hins : insU out x = out := by unfold insU; rw [if_pos (h3 ▸ hym)]
          clear hKJ
          repeat' (first | refine W.seq fun K hK => ?_ | refine W.block ?_ | ((first | refine wR ?_ | refine wD ?_ | refine W.skip ?_ | refine W.exit ?_ | refine W.ret (Post.ret ?_) | refine aP ?_ | refine aF ?_); simp only [go_sem, reduceCtorEq, List.getElem?_map, hx, hy, iA, e1, f1, f2, f4, hw, hw1, h1, h2, List.length_map, imR_len, imR_get, imL, List.map]) | refine wT ?_ | refine wF ?_ | refine wC (fun h => ?_) (fun h => ?_) | refine iK ?_ | refine aI2 ?_ | (refine hK _ ?_; clear hK K) | clear hK K)
          refine hKL2 _ (Fits.fit [(0, 0)] [0, 3, 4] 1 rfl rfl ?_)
          simp only [go_sem, hins]
          exact Fits.rfl
        | false =>
          have hins := ins_at hsrt hj (fun k' z h hz => by
            have : k' = k := by omega
            subst this
            rw [hy] at hz; cases hz
            simp at h1 h2
            omega) hgt
          clear hKJ
          repeat' (first | refine W.seq fun K hK => ?_ | refine W.block ?_ | ((first | refine wR ?_ | refine wD ?_ | refine W.skip ?_ | refine W.exit ?_ | refine W.ret (Post.ret ?_) | refine aP ?_ | refine aF ?_); simp only [go_sem, reduceCtorEq, List.getElem?_map, hx, hy, iA, e1, f1, f2, f4, f5, hw, hw1, h1, h2, List.length_map, imR_len, imR_get, imL, List.map, Nat.sub_zero, List.length_take, List.length_drop]) | refine wT ?_ | refine wF ?_ | refine wC (fun h => ?_) (fun h => ?_) | refine iK ?_ | refine aI2 ?_ | (refine hK _ ?_; clear hK K) | clear hK K)
          have hrow : imR ((insU out x).map iA) = imR (List.take (k + 1) (List.map iA out)) ++ [[Cell.im (AV.flat (Value.int .i64 x))]] ++ imR (List.take (out.length - (k + 1)) (List.drop (k + 1) (List.map iA out))) := by rw [hins]; simp [imR, imL, iA, List.take_of_length_le]
          refine hKL2 _ (Fits.fit [(43, 0)] [0, 3, 4] 1 rfl rfl ?_)
          simp only [go_sem, hrow]
          exact Fits.rfl
  · obtain rfl : i = l.length := by omega
    have e1 : decide ((l.length : Int) < l.length) = false := by simp
    rw [List.take_length]
    clear hKL
    repeat' (first | refine W.seq fun K hK => ?_ | refine W.block ?_ | ((first | refine wR ?_ | refine wD ?_ | refine W.skip ?_ | refine W.exit ?_ | refine W.ret (Post.ret ?_) | refine aP ?_ | refine aF ?_); simp only [go_sem, reduceCtorEq, e1, List.length_map]) | refine wT ?_ | refine wF ?_ | refine wC (fun h => ?_) (fun h => ?_) | refine iK ?_ | refine aI2 ?_ | (refine hK _ ?_; clear hK K) | clear hK K)
    rfl
end Go.Proofs.YtigenjeealkdlaaGreat
namespace Go.Proofs
open Go.Shelf Go.RowKit Go.Lib Go.Sort
theorem YtigenjeealkdlaaGreat.sortC_of {P : Program} {ρ : Ren} (L : SlLaysF0.n6 P ρ) (k : Nat) (aE : ∀ w, (isAgg (ρ.t 24)).run P w = .ok true w) (zE : ∀ w, (Go.sizeOf (ρ.t 24)).run P w = .ok k w) (ok : Go.Exe.CallOk P (ρ.f 6)) : Go.Exe.SortC P (ρ.f 6) k :=
  ⟨ok, fun p cap fv w => AnyF.slices_SortFunc_none L p cap fv w, fun enc cf g blk cap n w hk h1 hO eg hcmp hH hblk hsz => by
    have h := AnyQ.slices_SortFunc L k aE zE enc hk h1 cf hO g #[] blk 0 cap (Array.range n) w eg (fun m os dk hd x y => hcmp m os dk (by simpa using hd) x y) hH hblk (by simpa using hsz)
    rw [Array.size_range] at h
    exact h⟩
end Go.Proofs
/-
  DERIVED: THE SHELF's CONTRACTS AT THIS DUMP, IN PLAIN WORDS (tools/lay-plain.mjs out of 'AUo.lean', which tools/lay-shelf.mjs wrote): THE SAME DECLARATIONS UNDER THE SAME NAMES: 'import', 'namespace', 'open', 'def', 'theorem' AND NOTHING ELSE: no command of the shelf's: FOR A HAND-IN. Each laying: the table of numbers ('.._ren') and one theorem, a field a fact of the dump's own or the kernel's comparison; each contract: ONE APPLICATION.
-/
namespace Go.Proofs
open Go.Shelf
def Tryz.sort144_ren : Go.Shelf.Ren := ⟨fun | 6 => 144 | 15 => 113 | 14 => 158 | 28 => 139 | 29 => 140 | 20 => 162 | 21 => 163 | 22 => 164 | 23 => 165 | 24 => 166 | 25 => 167 | 26 => 168 | 27 => 169 | 46 => 170 | 47 => 153 | 48 => 154 | 49 => 171 | 50 => 172 | 57 => 173 | n => n, fun | 22 => 30 | 24 => 88 | 25 => 158 | 3 => 3 | 39 => 160 | 0 => 0 | 53 => 194 | 55 => 161 | 4 => 4 | 46 => 188 | 45 => 187 | 50 => 49 | 5 => 5 | 9 => 9 | 66 => 206 | 70 => 210 | 76 => 217 | 77 => 218 | n => n, fun | n => n⟩
theorem Tryz.sort144 : Go.Proofs.SlLaysF0.n6 Tryz.prog Tryz.sort144_ren := {
  mixed := by kernel_rfl
  f6 := ⟨Tryz.f144.name, by decide, Tryz.func144.trans (congrArg some (by kernel_rfl))⟩
  f14 := ⟨Tryz.f158.name, by decide, Tryz.func158.trans (congrArg some (by kernel_rfl))⟩
  f15 := Tryz.func113.trans (congrArg some (by kernel_rfl))
  f20 := ⟨Tryz.f162.name, by decide, Tryz.func162.trans (congrArg some (by kernel_rfl))⟩
  f21 := ⟨Tryz.f163.name, by decide, Tryz.func163.trans (congrArg some (by kernel_rfl))⟩
  f22 := ⟨Tryz.f164.name, by decide, Tryz.func164.trans (congrArg some (by kernel_rfl))⟩
  f23 := ⟨Tryz.f165.name, by decide, Tryz.func165.trans (congrArg some (by kernel_rfl))⟩
  f24 := ⟨Tryz.f166.name, by decide, Tryz.func166.trans (congrArg some (by kernel_rfl))⟩
  f25 := ⟨Tryz.f167.name, by decide, Tryz.func167.trans (congrArg some (by kernel_rfl))⟩
  f26 := ⟨Tryz.f168.name, by decide, Tryz.func168.trans (congrArg some (by kernel_rfl))⟩
  f27 := ⟨Tryz.f169.name, by decide, Tryz.func169.trans (congrArg some (by kernel_rfl))⟩
  f28 := Tryz.func139.trans (congrArg some (by kernel_rfl))
  f29 := Tryz.func140.trans (congrArg some (by kernel_rfl))
  f46 := ⟨Tryz.f170.name, by decide, Tryz.func170.trans (congrArg some (by kernel_rfl))⟩
  f47 := Tryz.func153.trans (congrArg some (by kernel_rfl))
  f48 := Tryz.func154.trans (congrArg some (by kernel_rfl))
  f49 := ⟨Tryz.f171.name, by decide, Tryz.func171.trans (congrArg some (by kernel_rfl))⟩
  f50 := ⟨Tryz.f172.name, by decide, Tryz.func172.trans (congrArg some (by kernel_rfl))⟩
  f57 := ⟨Tryz.f173.name, by decide, Tryz.func173.trans (congrArg some (by kernel_rfl))⟩
  t0 := Tryz.underlying0
  a0 := Tryz.isAgg0
  z0 := Tryz.sizeOf0
  v0 := Tryz.zeroValue0
  t3 := Tryz.underlying3
  a3 := Tryz.isAgg3
  z3 := Tryz.sizeOf3
  v3 := Tryz.zeroValue3
  t4 := Tryz.underlying4
  a4 := Tryz.isAgg4
  z4 := Tryz.sizeOf4
  v4 := Tryz.zeroValue4
  t5 := Tryz.underlying5
  a5 := Tryz.isAgg5
  z5 := Tryz.sizeOf5
  v5 := Tryz.zeroValue5
  t9 := Tryz.underlying9
  a9 := Tryz.isAgg9
  z9 := Tryz.sizeOf9
  v9 := Tryz.zeroValue9
  t22 := Tryz.underlying30
  a22 := Tryz.isAgg30
  z22 := Tryz.sizeOf30
  v22 := Tryz.zeroValue30
  t25 := Tryz.underlying158
  a25 := Tryz.isAgg158
  z25 := Tryz.sizeOf158
  v25 := Tryz.zeroValue158
  t39 := Tryz.underlying160
  a39 := Tryz.isAgg160
  z39 := Tryz.sizeOf160
  v39 := Tryz.zeroValue160
  t45 := Tryz.underlying187
  a45 := Tryz.isAgg187
  z45 := Tryz.sizeOf187
  v45 := Tryz.zeroValue187
  t46 := Tryz.underlying188
  a46 := Tryz.isAgg188
  z46 := Tryz.sizeOf188
  v46 := Tryz.zeroValue188
  t50 := Tryz.underlying49
  a50 := Tryz.isAgg49
  z50 := Tryz.sizeOf49
  v50 := Tryz.zeroValue49
  t53 := Tryz.underlying194
  a53 := Tryz.isAgg194
  z53 := Tryz.sizeOf194
  v53 := Tryz.zeroValue194
  t55 := Tryz.underlying161
  a55 := Tryz.isAgg161
  z55 := Tryz.sizeOf161
  v55 := Tryz.zeroValue161
  t66 := Tryz.underlying206
  a66 := Tryz.isAgg206
  z66 := Tryz.sizeOf206
  v66 := Tryz.zeroValue206
  t70 := Tryz.underlying210
  a70 := Tryz.isAgg210
  z70 := Tryz.sizeOf210
  v70 := Tryz.zeroValue210
  t76 := Tryz.underlying217
  a76 := Tryz.isAgg217
  z76 := Tryz.sizeOf217
  v76 := Tryz.zeroValue217
  t77 := Tryz.underlying218
  a77 := Tryz.isAgg218
  z77 := Tryz.sizeOf218
  v77 := Tryz.zeroValue218 }
end Go.Proofs
/-
  DERIVED: THE SHELF's CONTRACTS AT THIS DUMP, IN PLAIN WORDS (tools/lay-plain.mjs out of 'AUp.lean', which tools/lay-shelf.mjs wrote): THE SAME DECLARATIONS UNDER THE SAME NAMES: 'import', 'namespace', 'open', 'def', 'theorem' AND NOTHING ELSE: no command of the shelf's: FOR A HAND-IN. Each laying: the table of numbers ('.._ren') and one theorem, a field a fact of the dump's own or the kernel's comparison; each contract: ONE APPLICATION.
-/
namespace Go.Proofs
open Go.Shelf
def Tryz.grow84_ren : Go.Shelf.Ren := ⟨fun | 4 => 84 | n => n, fun | 22 => 26 | 25 => 3 | 3 => 3 | 4 => 4 | 9 => 9 | 20 => 20 | 0 => 0 | n => n, fun | n => n⟩
theorem Tryz.grow84 : Go.Proofs.Lays8.n4 Tryz.prog Tryz.grow84_ren := {
  mixed := by kernel_rfl
  f4 := ⟨Tryz.f84.name, by decide, Tryz.func84.trans (congrArg some (by kernel_rfl))⟩
  t0 := Tryz.underlying0
  a0 := Tryz.isAgg0
  z0 := Tryz.sizeOf0
  v0 := Tryz.zeroValue0
  t3 := Tryz.underlying3
  a3 := Tryz.isAgg3
  z3 := Tryz.sizeOf3
  v3 := Tryz.zeroValue3
  t4 := Tryz.underlying4
  a4 := Tryz.isAgg4
  z4 := Tryz.sizeOf4
  v4 := Tryz.zeroValue4
  t9 := Tryz.underlying9
  a9 := Tryz.isAgg9
  z9 := Tryz.sizeOf9
  v9 := Tryz.zeroValue9
  t20 := Tryz.underlying20
  a20 := Tryz.isAgg20
  z20 := Tryz.sizeOf20
  v20 := Tryz.zeroValue20
  t22 := Tryz.underlying26
  a22 := Tryz.isAgg26
  z22 := Tryz.sizeOf26
  v22 := Tryz.zeroValue26 }
def Tryz.grow122_ren : Go.Shelf.Ren := ⟨fun | 4 => 122 | n => n, fun | 22 => 30 | 25 => 88 | 3 => 3 | 4 => 4 | 9 => 9 | 20 => 20 | 0 => 0 | n => n, fun | n => n⟩
theorem Tryz.grow122 : Go.Proofs.Lays8.n4 Tryz.prog Tryz.grow122_ren := {
  mixed := by kernel_rfl
  f4 := ⟨Tryz.f122.name, by decide, Tryz.func122.trans (congrArg some (by kernel_rfl))⟩
  t0 := Tryz.underlying0
  a0 := Tryz.isAgg0
  z0 := Tryz.sizeOf0
  v0 := Tryz.zeroValue0
  t3 := Tryz.underlying3
  a3 := Tryz.isAgg3
  z3 := Tryz.sizeOf3
  v3 := Tryz.zeroValue3
  t4 := Tryz.underlying4
  a4 := Tryz.isAgg4
  z4 := Tryz.sizeOf4
  v4 := Tryz.zeroValue4
  t9 := Tryz.underlying9
  a9 := Tryz.isAgg9
  z9 := Tryz.sizeOf9
  v9 := Tryz.zeroValue9
  t20 := Tryz.underlying20
  a20 := Tryz.isAgg20
  z20 := Tryz.sizeOf20
  v20 := Tryz.zeroValue20
  t22 := Tryz.underlying30
  a22 := Tryz.isAgg30
  z22 := Tryz.sizeOf30
  v22 := Tryz.zeroValue30 }
def Tryz.sort85_ren : Go.Shelf.Ren := ⟨fun | 5 => 85 | 8 => 113 | 7 => 112 | 19 => 139 | 20 => 140 | 10 => 130 | 11 => 131 | 12 => 132 | 13 => 133 | 14 => 134 | 15 => 135 | 16 => 136 | 17 => 137 | 18 => 138 | 30 => 152 | 31 => 153 | 32 => 154 | 33 => 155 | 34 => 156 | 35 => 114 | 40 => 161 | n => n, fun | 23 => 26 | 25 => 3 | 3 => 3 | 32 => 160 | 22 => 26 | 0 => 0 | 44 => 194 | 46 => 161 | 4 => 4 | 36 => 188 | 35 => 187 | 41 => 49 | 5 => 5 | 9 => 9 | 53 => 206 | 57 => 210 | 63 => 217 | 64 => 218 | n => n, fun | n => n⟩
theorem Tryz.sort85 : Go.Proofs.SlLaysM.n5 Tryz.prog Tryz.sort85_ren := {
  mixed := by kernel_rfl
  f5 := ⟨Tryz.f85.name, by decide, Tryz.func85.trans (congrArg some (by kernel_rfl))⟩
  f7 := ⟨Tryz.f112.name, by decide, Tryz.func112.trans (congrArg some (by kernel_rfl))⟩
  f8 := Tryz.func113.trans (congrArg some (by kernel_rfl))
  f10 := ⟨Tryz.f130.name, by decide, Tryz.func130.trans (congrArg some (by kernel_rfl))⟩
  f11 := ⟨Tryz.f131.name, by decide, Tryz.func131.trans (congrArg some (by kernel_rfl))⟩
  f12 := ⟨Tryz.f132.name, by decide, Tryz.func132.trans (congrArg some (by kernel_rfl))⟩
  f13 := ⟨Tryz.f133.name, by decide, Tryz.func133.trans (congrArg some (by kernel_rfl))⟩
  f14 := ⟨Tryz.f134.name, by decide, Tryz.func134.trans (congrArg some (by kernel_rfl))⟩
  f15 := ⟨Tryz.f135.name, by decide, Tryz.func135.trans (congrArg some (by kernel_rfl))⟩
  f16 := ⟨Tryz.f136.name, by decide, Tryz.func136.trans (congrArg some (by kernel_rfl))⟩
  f17 := ⟨Tryz.f137.name, by decide, Tryz.func137.trans (congrArg some (by kernel_rfl))⟩
  f18 := ⟨Tryz.f138.name, by decide, Tryz.func138.trans (congrArg some (by kernel_rfl))⟩
  f19 := Tryz.func139.trans (congrArg some (by kernel_rfl))
  f20 := Tryz.func140.trans (congrArg some (by kernel_rfl))
  f30 := ⟨Tryz.f152.name, by decide, Tryz.func152.trans (congrArg some (by kernel_rfl))⟩
  f31 := Tryz.func153.trans (congrArg some (by kernel_rfl))
  f32 := Tryz.func154.trans (congrArg some (by kernel_rfl))
  f33 := ⟨Tryz.f155.name, by decide, Tryz.func155.trans (congrArg some (by kernel_rfl))⟩
  f34 := ⟨Tryz.f156.name, by decide, Tryz.func156.trans (congrArg some (by kernel_rfl))⟩
  f35 := ⟨Tryz.f114.name, by decide, Tryz.func114.trans (congrArg some (by kernel_rfl))⟩
  f40 := ⟨Tryz.f161.name, by decide, Tryz.func161.trans (congrArg some (by kernel_rfl))⟩
  t0 := Tryz.underlying0
  a0 := Tryz.isAgg0
  z0 := Tryz.sizeOf0
  v0 := Tryz.zeroValue0
  t3 := Tryz.underlying3
  a3 := Tryz.isAgg3
  z3 := Tryz.sizeOf3
  v3 := Tryz.zeroValue3
  t4 := Tryz.underlying4
  a4 := Tryz.isAgg4
  z4 := Tryz.sizeOf4
  v4 := Tryz.zeroValue4
  t5 := Tryz.underlying5
  a5 := Tryz.isAgg5
  z5 := Tryz.sizeOf5
  v5 := Tryz.zeroValue5
  t9 := Tryz.underlying9
  a9 := Tryz.isAgg9
  z9 := Tryz.sizeOf9
  v9 := Tryz.zeroValue9
  t22 := Tryz.underlying26
  a22 := Tryz.isAgg26
  z22 := Tryz.sizeOf26
  v22 := Tryz.zeroValue26
  t23 := Tryz.underlying26
  a23 := Tryz.isAgg26
  z23 := Tryz.sizeOf26
  v23 := Tryz.zeroValue26
  t25 := Tryz.underlying3
  a25 := Tryz.isAgg3
  z25 := Tryz.sizeOf3
  v25 := Tryz.zeroValue3
  t32 := Tryz.underlying160
  a32 := Tryz.isAgg160
  z32 := Tryz.sizeOf160
  v32 := Tryz.zeroValue160
  t35 := Tryz.underlying187
  a35 := Tryz.isAgg187
  z35 := Tryz.sizeOf187
  v35 := Tryz.zeroValue187
  t36 := Tryz.underlying188
  a36 := Tryz.isAgg188
  z36 := Tryz.sizeOf188
  v36 := Tryz.zeroValue188
  t41 := Tryz.underlying49
  a41 := Tryz.isAgg49
  z41 := Tryz.sizeOf49
  v41 := Tryz.zeroValue49
  t44 := Tryz.underlying194
  a44 := Tryz.isAgg194
  z44 := Tryz.sizeOf194
  v44 := Tryz.zeroValue194
  t46 := Tryz.underlying161
  a46 := Tryz.isAgg161
  z46 := Tryz.sizeOf161
  v46 := Tryz.zeroValue161
  t53 := Tryz.underlying206
  a53 := Tryz.isAgg206
  z53 := Tryz.sizeOf206
  v53 := Tryz.zeroValue206
  t57 := Tryz.underlying210
  a57 := Tryz.isAgg210
  z57 := Tryz.sizeOf210
  v57 := Tryz.zeroValue210
  t63 := Tryz.underlying217
  a63 := Tryz.isAgg217
  z63 := Tryz.sizeOf217
  v63 := Tryz.zeroValue217
  t64 := Tryz.underlying218
  a64 := Tryz.isAgg218
  z64 := Tryz.sizeOf218
  v64 := Tryz.zeroValue218 }
end Go.Proofs
namespace Go.Proofs.YtigenjeealkdlaaGreat
open Go.RowKit Go.Exe
theorem aggOf {P : Program} {t : TypeId} {n : Nat} (ht : TI P t = some (true, n)) (w : World) : (isAgg t).run P w = .ok true w := by
  obtain ⟨i, d, hi, hd, hg, hn⟩ := TI_spec ht
  unfold isAgg
  simp only [Sem.run_bind, run_underlying hd, Result.andThen_ok]
  rw [← hg]
  cases d <;> rfl
theorem sizeOf_ {P : Program} {t : TypeId} {g : Bool} {n : Nat} (ht : TI P t = some (g, n)) (w : World) : (Go.sizeOf t).run P w = .ok n w := by
  obtain ⟨i, d, h1, h2, h3, h4⟩ := TI_spec ht
  simp [sizeOf, typeInfo, h1, h4]
theorem sort144_c : SortC Tryz.prog 144 14 := sortC_of Tryz.sort144 14 (aggOf tI88) (sizeOf_ tI88) ⟨Tryz.f144, Tryz.func144, by kernel_rfl, by kernel_rfl⟩
theorem sort85_c : SortI Tryz.prog 85 := ⟨⟨Tryz.f85, Tryz.func85, by kernel_rfl, by kernel_rfl⟩, fun p cap w => AnyM.slices_Sort_int_none Tryz.sort85 p cap w, fun blk cap zs w hH hb hn => AnyM.slices_Sort_int Tryz.sort85 blk 0 cap zs w hH hb hn⟩
theorem grow84_c : GrowC Tryz.prog 84 3 1 8 := by
  refine ⟨⟨Tryz.f84, Tryz.func84, by kernel_rfl, by kernel_rfl⟩, fun w => Any8.slices_Grow_room Tryz.grow84 none 0 0 0 w (Nat.le_refl _) (by decide) (by decide) (Nat.le_refl _), fun n w h0 h1 h2 => ?_⟩
  obtain ⟨i0, hi0, hsz, hbs⟩ := EInfo_spec tE3
  obtain ⟨i1, z, hi1, hz, hzs, _⟩ := ZV_spec tZ3
  obtain rfl : i0 = i1 := by rw [hi0] at hi1; exact Option.some.inj hi1
  have hzz : z.cells.size = 1 := by rw [← Array.length_toList, hzs]; rfl
  have hb1 : n * i0.bytes ≤ 140737488355328 := by rw [hbs]; exact h1
  refine (Any8.slices_Grow_grow Tryz.grow84 i0 z hi0 hz (by rw [hsz]; exact Nat.zero_lt_one) none 0 0 n [] w (Nat.le_refl _) (by omega) (by rw [Nat.zero_add]; exact hb1) (by omega) (by simp) (fun _ => rfl) (fun a ha => by cases ha)).mono fun ed w' ⟨e1, e2⟩ => ?_
  have hge := Go.grownCap_ge w (0 + n) 0 (Tryz.grow84_ren.t 25)
  have hle := Go.grownCap_le_maxLen w (0 + n) 0 (Tryz.grow84_ren.t 25) (by unfold maxLen; omega)
  refine ⟨_, _, e1, hle, ?_, e2⟩
  have hzc : ∀ m, (Builtin.zeroCells z.cells m).size = m := fun m => by simp [Builtin.zeroCells, hzz]
  simp only [Array.size_append, hzc, Nat.zero_add] at hge ⊢
  simp only [List.size_toArray, List.length_nil]
  omega
theorem grow122_c : GrowC Tryz.prog 122 88 14 168 := by
  refine ⟨⟨Tryz.f122, Tryz.func122, by kernel_rfl, by kernel_rfl⟩, fun w => Any8.slices_Grow_room Tryz.grow122 none 0 0 0 w (Nat.le_refl _) (by decide) (by decide) (Nat.le_refl _), fun n w h0 h1 h2 => ?_⟩
  obtain ⟨i0, hi0, hsz, hbs⟩ := EInfo_spec tE88
  obtain ⟨i1, z, hi1, hz, hzs, _⟩ := ZV_spec tZ88
  obtain rfl : i0 = i1 := by rw [hi0] at hi1; exact Option.some.inj hi1
  have hzz : z.cells.size = 14 := by rw [← Array.length_toList, hzs]; rfl
  have hb1 : n * i0.bytes ≤ 140737488355328 := by rw [hbs]; exact h1
  refine (Any8.slices_Grow_grow Tryz.grow122 i0 z hi0 hz (by rw [hsz]; exact Nat.zero_lt_succ _) none 0 0 n [] w (Nat.le_refl _) (by omega) (by rw [Nat.zero_add]; exact hb1) (by omega) (by simp) (fun _ => rfl) (fun a ha => by cases ha)).mono fun ed w' ⟨e1, e2⟩ => ?_
  have hge := Go.grownCap_ge w (0 + n) 0 (Tryz.grow122_ren.t 25)
  have hle := Go.grownCap_le_maxLen w (0 + n) 0 (Tryz.grow122_ren.t 25) (by unfold maxLen; omega)
  refine ⟨_, _, e1, hle, ?_, e2⟩
  have hzc : ∀ m, (Builtin.zeroCells z.cells m).size = m * 14 := fun m => by simp [Builtin.zeroCells, hzz]
  simp only [Array.size_append, hzc, Nat.zero_add] at hge ⊢
  simp only [List.size_toArray, List.length_nil]
  omega
end Go.Proofs.YtigenjeealkdlaaGreat
namespace Go.Proofs.YtigenjeealkdlaaGreat
open Go.RowKit Go.Exe
/-! ### what is below a span, and the parts of a tree -/
inductive Desc (ss : List Spn) (x : Int) : Int → Prop
  | refl : Desc ss x x
  | step {y z : Int} : Desc ss x y → z ∈ kidsF ss y → Desc ss x z
theorem kids_ids {ss : List Spn} {p x : Int} (h : x ∈ kidsF ss p) : x ∈ idsOf ss := by
  obtain ⟨s, hs, rfl, _⟩ := mem_kids.1 h
  exact List.mem_map_of_mem hs
theorem Desc.head {ss : List Spn} {x c y : Int} (hc : c ∈ kidsF ss x) (h : Desc ss c y) : Desc ss x y := by
  induction h with
  | refl => exact .step .refl hc
  | step _ hz ih => exact .step ih hz
theorem Desc.ids {ss : List Spn} {x y : Int} (hx : x ∈ idsOf ss) (h : Desc ss x y) : y ∈ idsOf ss := by
  cases h with
  | refl => exact hx
  | step _ hz => exact kids_ids hz
theorem depN_neg {ss : List Spn} {x : Int} : ∀ n, depN ss n x < 0 ↔ ∀ d, d < n → x ∉ lev ss d
  | 0 => by simp [depN]
  | n + 1 => by
    unfold depN
    by_cases h : x ∈ lev ss n
    · rw [if_pos h]
      exact ⟨fun h0 => by omega, fun h0 => absurd h (h0 n (by omega))⟩
    · rw [if_neg h, depN_neg n]
      refine ⟨fun h0 d hd => ?_, fun h0 d hd => h0 d (by omega)⟩
      by_cases e : d = n
      · subst e; exact h
      · exact h0 d (by omega)
end Go.Proofs.YtigenjeealkdlaaGreat
namespace Go.Proofs.YtigenjeealkdlaaGreat
open Go.RowKit Go.Exe
theorem ofS_len (l : List Spn) (t : Int) : (ofS l t).length ≤ l.length := by
  have h1 : (ofS l t).Nodup := (ofS_srt l t).imp fun {a b} h e => by subst e; omega
  exact h1.length_le_of_subset fun s h => (ofS_mem h).1
attribute [local irreducible] W AX Run RunD AStep AOp AOpX AStB AStH AStG Fits PCall GCall PostG Post Stop
end Go.Proofs.YtigenjeealkdlaaGreat
namespace Go.Proofs.YtigenjeealkdlaaGreat
open Go.RowKit Go.Exe
/-! ### the document's tree -/
def ndN (ss : List Spn) (id : Int) : Nat := (ss.takeWhile fun s => s.id != id).length
def parS (ss : List Spn) (id : Int) : Option Int := (ss[ndN ss id]?).map Spn.pa
def ndI (ss : List Spn) (id : Int) : Int := if ndN ss id < ss.length then (ndN ss id : Int) else -1
theorem ndN_at : ∀ {ss : List Spn} {id : Int} {s : Spn}, ss[ndN ss id]? = some s → s.id = id
  | [], id, s, h => by cases h
  | x :: r, id, s, h => by
    unfold ndN at h
    rw [List.takeWhile_cons] at h
    by_cases e : x.id = id
    · rw [if_neg (by simpa using e)] at h
      cases h
      exact e
    · rw [if_pos (by simpa using e), List.length_cons, List.getElem?_cons_succ] at h
      exact ndN_at (ss := r) h
theorem ndN_is : ∀ {ss : List Spn} {i : Nat} {s : Spn} {id : Int}, ss[i]? = some s → s.id = id → (∀ j x, j < i → ss[j]? = some x → x.id ≠ id) → ndN ss id = i
  | [], i, s, id, h, _, _ => by cases h
  | x :: r, 0, s, id, h, e, _ => by
    cases h
    unfold ndN
    rw [List.takeWhile_cons, if_neg (by simpa using e)]
    rfl
  | x :: r, i + 1, s, id, h, e, hl => by
    have h0 := hl 0 x (by omega) rfl
    have ih := ndN_is (ss := r) (i := i) h e (fun j y hj hy => hl (j + 1) y (by omega) hy)
    unfold ndN at ih ⊢
    rw [List.takeWhile_cons, if_pos (by simpa using h0), List.length_cons, ih]
theorem ndN_out : ∀ {ss : List Spn} {id : Int}, (∀ s ∈ ss, s.id ≠ id) → ndN ss id = ss.length
  | [], id, _ => rfl
  | x :: r, id, h => by
    have ih := ndN_out (ss := r) (id := id) fun s hs => h s (by simp [hs])
    unfold ndN at ih ⊢
    rw [List.takeWhile_cons, if_pos (by simpa using h x (by simp)), List.length_cons, List.length_cons, ih]
theorem ndN_in {ss : List Spn} {id : Int} (h : id ∈ idsOf ss) : ndN ss id < ss.length := by
  rcases Nat.lt_or_ge (ndN ss id) ss.length with h1 | h1
  · exact h1
  · exfalso
    obtain ⟨s, hs, rfl⟩ := List.mem_map.1 h
    have h2 : ss.takeWhile (fun x => x.id != s.id) = ss := (List.takeWhile_sublist _).eq_of_length_le h1
    have h3 : s ∈ ss.takeWhile (fun x => x.id != s.id) := by rw [h2]; exact hs
    have := mem_tw h3
    simp at this
theorem ndN_mem {ss : List Spn} {id : Int} (h : ndN ss id < ss.length) : id ∈ idsOf ss := by
  have h1 := List.getElem?_eq_getElem h
  have h2 := ndN_at h1
  exact h2 ▸ List.mem_map_of_mem (List.mem_of_getElem? h1)
theorem parS_some {ss : List Spn} {id p : Int} (h : parS ss id = some p) : ∃ s, ss[ndN ss id]? = some s ∧ s.id = id ∧ s.pa = p := by
  unfold parS at h
  rw [Option.map_eq_some_iff] at h
  obtain ⟨s, h1, h2⟩ := h
  exact ⟨s, h1, ndN_at h1, h2⟩
theorem parS_none {ss : List Spn} {id : Int} (h : parS ss id = none) : id ∉ idsOf ss := fun hm => by
  unfold parS at h
  rw [List.getElem?_eq_getElem (ndN_in hm)] at h
  cases h
theorem parS_out {ss : List Spn} {id : Int} (h : id ∉ idsOf ss) : parS ss id = none := by
  unfold parS
  rw [List.getElem?_eq_none]
  · rfl
  · rcases Nat.lt_or_ge (ndN ss id) ss.length with h1 | h1
    · exact absurd (ndN_mem h1) h
    · exact h1
theorem parS_in {ss : List Spn} (hn : (idsOf ss).Nodup) {s : Spn} (h : s ∈ ss) : parS ss s.id = some s.pa := by
  cases hp : parS ss s.id with
  | none => exact absurd (List.mem_map_of_mem h) (parS_none hp)
  | some p =>
    obtain ⟨s', h1, h2, h3⟩ := parS_some hp
    obtain rfl := id_uni hn (List.mem_of_getElem? h1) h h2
    rw [h3]
/-- The ancestors, out of the parents. -/
def ancG (par : Int → Option Int) : Nat → Int → List Int → List Int
  | 0, _, out => out
  | k + 1, id, out => match par id with
    | none => out
    | some p => if p = 0 ∨ p ∈ out then out else match par p with
      | none => out
      | some _ => ancG par k p (out ++ [p])
/-- The document's ancestors. -/
def ancS (ss : List Spn) (id : Int) : List Int := ancG (parS ss) (ss.length + 1) id []
def cycM (ss : List Spn) (id : Int) : Bool := match parS ss ((ancS ss id).getLastD id) with
  | some p => decide (p ≠ 0) && (parS ss p).isSome
  | none => false
def depM (ss : List Spn) (id : Int) : Int := if cycM ss id then -1 else ((ancS ss id).length : Int)
theorem getLastD_snoc {α : Type} (l : List α) (a d : α) : (l ++ [a]).getLastD d = a := by simp [List.getLastD_eq_getLast?]
theorem ancG_lev {ss : List Spn} (hn : (idsOf ss).Nodup) : ∀ (d k : Nat) (x : Int) (out : List Int), x ∈ lev ss d → d < k → (∀ y ∈ out, ∃ e, d ≤ e ∧ y ∈ lev ss e) →
    ∃ L, ancG (parS ss) k x out = out ++ L ∧ L.length = d ∧ L.getLastD x ∈ lev ss 0
  | 0, 0, x, out, _, hk, _ => by omega
  | d + 1, 0, x, out, _, hk, _ => by omega
  | 0, k + 1, x, out, hx, hk, ho => by
    refine ⟨[], ?_, rfl, by simpa using hx⟩
    obtain ⟨s, hs, rfl, ht⟩ := mem_tops.1 hx
    rw [ancG, parS_in hn hs, List.append_nil]
    dsimp only
    by_cases h0 : s.pa = 0 ∨ s.pa ∈ out
    · rw [if_pos h0]
    · rw [if_neg h0]
      have h1 : s.pa ∉ idsOf ss := ht.resolve_left fun h => h0 (.inl h)
      rw [parS_out h1]
  | d + 1, k + 1, x, out, hx, hk, ho => by
    obtain ⟨p, hp, hxp⟩ := List.mem_flatMap.1 hx
    obtain ⟨s, hs, rfl, rfl, h0⟩ := mem_kids.1 hxp
    have hno : s.pa ∉ out := fun h => by
      obtain ⟨e, he, h2⟩ := ho _ h
      have := lev_one hn e d h2 hp
      omega
    obtain ⟨q, hq⟩ : ∃ q, parS ss s.pa = some q := by
      cases h : parS ss s.pa with
      | none => exact absurd (lev_ids d hp) (parS_none h)
      | some q => exact ⟨q, rfl⟩
    obtain ⟨L, h1, h2, h3⟩ := ancG_lev hn d k s.pa (out ++ [s.pa]) hp (by omega) (fun y hy => by
      rcases List.mem_append.1 hy with h | h
      · obtain ⟨e, he, h2⟩ := ho _ h
        exact ⟨e, by omega, h2⟩
      · obtain rfl : y = s.pa := by simpa using h
        exact ⟨d, Nat.le_refl _, hp⟩)
    refine ⟨s.pa :: L, ?_, by simp [h2], ?_⟩
    · rw [ancG, parS_in hn hs]
      dsimp only
      rw [if_neg (fun h => h.elim h0 hno), hq]
      dsimp only
      rw [h1, List.append_assoc]
      rfl
    · rw [List.getLastD_cons]
      exact h3
theorem ancG_cyc {ss : List Spn} (hn : (idsOf ss).Nodup) : ∀ (k : Nat) (x : Int) (out : List Int), x ∈ idsOf ss → (∀ d, x ∉ lev ss d) → 
    ∃ L, ancG (parS ss) k x out = out ++ L ∧ L.getLastD x ∈ idsOf ss ∧ ∀ d, L.getLastD x ∉ lev ss d
  | 0, x, out, hx, hl => ⟨[], by simp [ancG], by simpa using hx, by simpa using hl⟩
  | k + 1, x, out, hx, hl => by
    obtain ⟨s, hs, rfl⟩ := List.mem_map.1 hx
    have h0 : s.pa ≠ 0 := fun h => hl 0 (mem_tops.2 ⟨s, hs, rfl, .inl h⟩)
    have h1 : s.pa ∈ idsOf ss := by
      by_cases h : s.pa ∈ idsOf ss
      · exact h
      · exact absurd (mem_tops.2 ⟨s, hs, rfl, .inr h⟩) (hl 0)
    have h2 : ∀ d, s.pa ∉ lev ss d := fun d hd => hl (d + 1) (List.mem_flatMap.2 ⟨s.pa, hd, mem_kids.2 ⟨s, hs, rfl, rfl, h0⟩⟩)
    rw [ancG, parS_in hn hs]
    dsimp only
    by_cases h3 : s.pa = 0 ∨ s.pa ∈ out
    · rw [if_pos h3]
      exact ⟨[], by simp, by simpa using hx, by simpa using hl⟩
    · rw [if_neg h3]
      cases hq : parS ss s.pa with
      | none => exact absurd h1 (parS_none hq)
      | some q =>
        dsimp only
        obtain ⟨L, h4, h5, h6⟩ := ancG_cyc hn k s.pa (out ++ [s.pa]) h1 h2
        refine ⟨s.pa :: L, ?_, ?_, ?_⟩
        · rw [h4, List.append_assoc]; rfl
        · rw [List.getLastD_cons]; exact h5
        · rw [List.getLastD_cons]; exact h6
theorem depN_at {ss : List Spn} (hn : (idsOf ss).Nodup) {d : Nat} {x : Int} (h : x ∈ lev ss d) : ∀ n, d < n → depN ss n x = d
  | 0, hd => by omega
  | n + 1, hd => by
    unfold depN
    by_cases e : x ∈ lev ss n
    · rw [if_pos e, lev_one hn d n h e]
    · rw [if_neg e]
      refine depN_at hn h n ?_
      rcases Nat.lt_or_ge d n with h1 | h1
      · exact h1
      · obtain rfl : d = n := by omega
        exact absurd h e
theorem cyc_is {ss : List Spn} (hn : (idsOf ss).Nodup) {x : Int} (hx : x ∈ idsOf ss) : cycM ss x = decide (depN ss ss.length x < 0) ∧ depM ss x = depN ss ss.length x := by
  by_cases hl : ∃ d, x ∈ lev ss d
  · obtain ⟨d, hd⟩ := hl
    have hdl := dep_lt hn (List.ne_nil_of_mem hd)
    have h1 := depN_at hn hd ss.length hdl
    obtain ⟨L, h2, h3, h4⟩ := ancG_lev hn d (ss.length + 1) x [] hd (by omega) (by simp)
    rw [List.nil_append] at h2
    have h5 : cycM ss x = false := by
      unfold cycM ancS
      rw [h2]
      obtain ⟨s, hs, he, ht⟩ := mem_tops.1 h4
      rw [← he, parS_in hn hs]
      rcases ht with h | h
      · simp [h]
      · simp [parS_out h]
    refine ⟨by rw [h5, h1]; simp, ?_⟩
    unfold depM
    rw [h5, h1, if_neg (by simp), ancS, h2, h3]
  · have hl2 : ∀ d, x ∉ lev ss d := fun d hd => hl ⟨d, hd⟩
    have h1 : depN ss ss.length x < 0 := (depN_neg _).2 fun d _ => hl2 d
    obtain ⟨L, h2, h3, h4⟩ := ancG_cyc hn (ss.length + 1) x [] hx hl2
    rw [List.nil_append] at h2
    have h5 : cycM ss x = true := by
      unfold cycM ancS
      rw [h2]
      obtain ⟨s, hs, he⟩ := List.mem_map.1 h3
      rw [← he, parS_in hn hs]
      have hp0 : s.pa ≠ 0 := fun h => h4 0 (mem_tops.2 ⟨s, hs, he, .inl h⟩)
      have hp1 : s.pa ∈ idsOf ss := by
        by_cases h : s.pa ∈ idsOf ss
        · exact h
        · exact absurd (mem_tops.2 ⟨s, hs, he, .inr h⟩) (h4 0)
      cases hq : parS ss s.pa with
      | none => exact absurd hp1 (parS_none hq)
      | some q => simp [hp0, hq]
    refine ⟨by rw [h5]; simp [h1], ?_⟩
    have h6 : ∀ n, depN ss n x = -1 := fun n => by
      induction n with
      | zero => rfl
      | succ n ih => unfold depN; rw [if_neg (hl2 n), ih]
    unfold depM
    rw [h5, h6]
    rfl
/-- The document's children. -/
def chM (ss : List Spn) (p : Int) : List Int := (ss.filter fun s => s.pa == p).map Spn.id
theorem chM_is {ss : List Spn} {p : Int} (h : p ≠ 0) : chM ss p = kidsF ss p := by
  unfold chM kidsF kidsN
  rw [List.take_length]
  congr 1
  refine List.filter_congr fun s _ => ?_
  by_cases e : s.pa = p
  · subst e; simp [h]
  · simp [e]
/-- The document's tree, up to the first i spans. -/
def mNds (ss : List Spn) (i : Nat) : List Nd := (ss.take i).map fun s => ⟨s.id, s.pa, depM ss s.id, chM ss s.id⟩
def mCyc (ss : List Spn) (i : Nat) : List Int := ((ss.take i).filter fun s => cycM ss s.id).map Spn.id
def mRoots (ss : List Spn) (i : Nat) : List Int := ((ss.take i).filter fun s => !cycM ss s.id && s.pa == 0).map Spn.id
def mOrph (ss : List Spn) (i : Nat) : List Int := ((ss.take i).filter fun s => !cycM ss s.id && s.pa != 0 && decide (ndI ss s.pa < 0)).map Spn.id
def mMiss (ss : List Spn) (i : Nat) : List Int := ((ss.take i).filter fun s => !cycM ss s.id && s.pa != 0 && decide (ndI ss s.pa < 0)).map Spn.pa
def mTree (t : Int) (ss : List Spn) : Tr := ⟨t, mNds ss ss.length, mRoots ss ss.length, mOrph ss ss.length, mCyc ss ss.length, sortU (mMiss ss ss.length)⟩
theorem ndI_neg {ss : List Spn} {p : Int} : ndI ss p < 0 ↔ p ∉ idsOf ss := by
  unfold ndI
  by_cases h : ndN ss p < ss.length
  · rw [if_pos h]
    exact ⟨fun h1 => by omega, fun h1 => absurd (ndN_mem h) h1⟩
  · rw [if_neg h]
    exact ⟨fun _ hm => h (ndN_in hm), fun _ => by omega⟩
theorem addK_mem {l : List Int} {x y : Int} : y ∈ addK l x ↔ y ∈ l ∨ y = x := by
  unfold addK
  split
  · exact ⟨.inl, fun h => h.elim id fun e => by subst e; assumption⟩
  · simp
theorem addK_nodup {l : List Int} (h : l.Nodup) (x : Int) : (addK l x).Nodup := by
  unfold addK
  split
  · exact h
  · rename_i hn
    exact List.nodup_append.2 ⟨h, by simp, fun a ha b hb e => by simp at hb; subst hb; exact hn (e ▸ ha)⟩
theorem addKs : ∀ (l a : List Int), a.Nodup → (l.foldl addK a).Nodup ∧ ∀ y, y ∈ l.foldl addK a ↔ y ∈ a ∨ y ∈ l
  | [], a, h => ⟨h, by simp⟩
  | x :: r, a, h => by
    obtain ⟨h1, h2⟩ := addKs r (addK a x) (addK_nodup h x)
    refine ⟨h1, fun y => ?_⟩
    rw [List.foldl_cons, h2, addK_mem, List.mem_cons]
    constructor
    · rintro ((h | h) | h)
      · exact .inl h
      · exact .inr (.inl h)
      · exact .inr (.inr h)
    · rintro (h | h | h)
      · exact .inl (.inl h)
      · exact .inl (.inr h)
      · exact .inr h
theorem top_cyc {ss : List Spn} (hn : (idsOf ss).Nodup) {s : Spn} (hs : s ∈ ss) (h : s.pa = 0 ∨ s.pa ∉ idsOf ss) : cycM ss s.id = false := by
  rw [(cyc_is hn (List.mem_map_of_mem hs)).1, decide_eq_false_iff_not, depN_neg]
  intro h1
  have h2 : s.id ∈ lev ss 0 := mem_tops.2 ⟨s, hs, rfl, h⟩
  exact h1 0 (by have := List.length_pos_of_mem hs; omega) h2
theorem srtI_lt {l : List Int} (h : l.Nodup) : (srtI l).Pairwise (· < ·) := by
  have h1 : (srtI l).Pairwise (fun a b => decide (a ≤ b) = true) := List.pairwise_mergeSort (le := fun a b : Int => decide (a ≤ b)) (fun a b c h1 h2 => by simp only [decide_eq_true_eq] at *; omega) (fun a b => by simp only [Bool.or_eq_true, decide_eq_true_eq]; omega) l
  have h2 : (srtI l).Nodup := (List.mergeSort_perm l _).nodup_iff.2 h
  refine (h1.and h2).imp fun {a b} ⟨h3, h4⟩ => ?_
  simp only [decide_eq_true_eq] at h3
  omega
theorem srtI_mem {l : List Int} {y : Int} : y ∈ srtI l ↔ y ∈ l := (List.mergeSort_perm l _).mem_iff
theorem mTree_is {ss : List Spn} (hs : ss.Pairwise fun a b => a.id < b.id) (h0 : ∀ s ∈ ss, s.id ≠ 0) (t : Int) : mTree t ss = treeOf t ss := by
  have hn := nodup_sorted hs
  have e1 : mNds ss ss.length = nodesD ss ss.length := by
    unfold mNds nodesD
    rw [List.take_length]
    refine List.map_congr_left fun s h => ?_
    rw [(cyc_is hn (List.mem_map_of_mem h)).2, chM_is (h0 s h)]
  have e2 : mRoots ss ss.length = rootsN ss ss.length := by
    unfold mRoots rootsN
    rw [List.take_length]
    congr 1
    refine List.filter_congr fun s h => ?_
    by_cases e : s.pa = 0
    · rw [top_cyc hn h (.inl e), e]; rfl
    · simp [e]
  have ho : ∀ s ∈ ss, (!cycM ss s.id && s.pa != 0 && decide (ndI ss s.pa < 0)) = (s.pa != 0 && !(idsOf ss).contains s.pa) := fun s h => by
    by_cases e : s.pa ∈ idsOf ss
    · have h1 : decide (ndI ss s.pa < 0) = false := by rw [decide_eq_false_iff_not, ndI_neg]; exact fun h => h e
      simp [h1, e]
    · rw [top_cyc hn h (.inr e), decide_eq_true (ndI_neg.2 e)]
      simp [e]
  have e3 : mOrph ss ss.length = orphN ss ss.length := by
    unfold mOrph orphN
    rw [List.take_length]
    congr 1
    exact List.filter_congr ho
  have e4 : mCyc ss ss.length = cycN ss ss.length := by
    unfold mCyc cycN
    rw [List.take_length]
    congr 1
    exact List.filter_congr fun s h => (cyc_is hn (List.mem_map_of_mem h)).1
  have e5 : sortU (mMiss ss ss.length) = srtI (missN ss ss.length) := by
    have h1 : mMiss ss ss.length = ((ss.take ss.length).filter fun s => s.pa != 0 && !(idsOf ss).contains s.pa).map Spn.pa := by
      unfold mMiss
      rw [List.take_length]
      congr 1
      exact List.filter_congr ho
    obtain ⟨h2, h3⟩ := addKs (((ss.take ss.length).filter fun s => s.pa != 0 && !(idsOf ss).contains s.pa).map Spn.pa) [] List.nodup_nil
    refine lt_uniI (sortU_srt _) (srtI_lt h2) fun y => ?_
    unfold missN
    rw [sortU_mem, srtI_mem, h3, h1]
    simp
  unfold mTree treeOf
  rw [e1, e2, e3, e4, e5]
end Go.Proofs.YtigenjeealkdlaaGreat
namespace Go.Proofs.YtigenjeealkdlaaGreat
open Go.RowKit Go.Exe
attribute [local irreducible] W AX Run RunD AStep AOp AOpX AStB AStH AStG Fits PCall GCall PostG Post Stop
theorem node22_c (ss : List Spn) (id : Int) : PCall Tryz.prog 22 [spsT ss, ft (.int .i64 id)] (ft (.int .i64 (ndI ss id))) := by
  refine PCall.intro (nt := 20) (rs := [.tmp 4]) Tryz.func22 rfl ⟨by kernel_rfl, by kernel_rfl, by kernel_rfl⟩ (by simp) ?_
  rintro ⟨P, w0, ok0, may, np, pblk⟩ rfl rfl
  refine W.lenB 0 rfl tE88 fun hl0 hl1 => ?_
  rw [List.length_map] at hl1
  repeat' (first | refine W.seq fun K hK => ?_ | refine W.block ?_ | ((first | refine wR ?_ | refine wD ?_ | refine W.skip ?_ | refine W.exit ?_ | refine W.ret (Post.ret ?_) | refine aP ?_ | refine aF ?_); simp only [go_sem, reduceCtorEq]) | refine wT ?_ | refine wF ?_ | refine wC (fun h => ?_) (fun h => ?_) | refine iK ?_ | refine aI2 ?_ | (refine hK _ ?_; clear hK K) | clear hK K)
  refine W.loopF (T := fun i : Nat => { t := [(0, spsT ss), (1, ft (.int .i64 id)), (5, ft (.int .i64 (i : Nat)))], h := [], nx := 0, ex := [], nt := 20 })
    (Inv := fun i => i ≤ ss.length ∧ ∀ j x, j < i → ss[j]? = some x → x.id ≠ id) (μ := fun i => ss.length - i) (x0 := 0) ?_ ⟨Nat.zero_le _, fun j x h => by omega⟩ ?_
  · refine Fits.fit [] [0, 1, 5] 0 rfl rfl ?_
    simp only [go_sem]
    exact Fits.rfl
  rintro i ⟨hi, hlo⟩ KL hKL
  by_cases hlt : i < ss.length
  · obtain ⟨s, hs, hm, _⟩ := drop_at hlt
    have e1 : decide ((i : Int) < ss.length) = true := by simp; omega
    have e2 : decide (i < ss.length) = true := by simp; omega
    have hw := w64s i (by omega)
    cases h1 : (s.id == id) with
    | true =>
      have e : s.id = id := by simpa using h1
      have hn : ndI ss id = (i : Int) := by
        have := ndN_is hs e hlo
        unfold ndI
        rw [this, if_pos hlt]
      clear hKL
      repeat' (first | refine W.seq fun K hK => ?_ | refine W.block ?_ | ((first | refine wR ?_ | refine wD ?_ | refine W.skip ?_ | refine W.exit ?_ | refine W.ret (Post.ret ?_) | refine aP ?_ | refine aF ?_); simp only [go_sem, reduceCtorEq, List.getElem?_map, hs, spA, e1, e2, h1, List.length_map]) | refine wT ?_ | refine wF ?_ | refine wC (fun h => ?_) (fun h => ?_) | refine iK ?_ | refine aI2 ?_ | (refine hK _ ?_; clear hK K) | clear hK K)
      rw [hn]
    | false =>
      repeat' (first | refine W.seq fun K hK => ?_ | refine W.block ?_ | ((first | refine wR ?_ | refine wD ?_ | refine W.skip ?_ | refine W.exit ?_ | refine W.ret (Post.ret ?_) | refine aP ?_ | refine aF ?_); simp only [go_sem, reduceCtorEq, List.getElem?_map, hs, spA, e1, e2, h1, hw, List.length_map]) | refine wT ?_ | refine wF ?_ | refine wC (fun h => ?_) (fun h => ?_) | refine iK ?_ | refine aI2 ?_ | (refine hK _ ?_; clear hK K) | clear hK K)
      refine hKL.to (i + 1) ⟨by omega, fun j x hj hx => ?_⟩ (by omega) ?_
      · by_cases e : j = i
        · subst e
          rw [hs] at hx
          cases hx
          simpa using h1
        · exact hlo j x (by omega) hx
      · refine Fits.fit [] [0, 1, 5] 0 rfl rfl ?_
        simp only [go_sem]
        exact Fits.rfl
  · obtain rfl : i = ss.length := by omega
    have e1 : decide ((ss.length : Int) < ss.length) = false := by simp
    have hn : ndI ss id = -1 := by
      have : ndN ss id = ss.length := ndN_out fun s hs => by
        obtain ⟨j, hj⟩ := List.getElem?_of_mem hs
        exact hlo j s (List.getElem?_eq_some_iff.1 hj).1 hj
      unfold ndI
      rw [this, if_neg (by omega)]
    clear hKL
    repeat' (first | refine W.seq fun K hK => ?_ | refine W.block ?_ | ((first | refine wR ?_ | refine wD ?_ | refine W.skip ?_ | refine W.exit ?_ | refine W.ret (Post.ret ?_) | refine aP ?_ | refine aF ?_); simp only [go_sem, reduceCtorEq, e1, List.length_map]) | refine wT ?_ | refine wF ?_ | refine wC (fun h => ?_) (fun h => ?_) | refine iK ?_ | refine aI2 ?_ | (refine hK _ ?_; clear hK K) | clear hK K)
    rw [hn]
theorem children_c (ss : List Spn) (p : Int) (hlen : ss.length ≤ 1000000) : PCall Tryz.prog 24 [spsT ss, ft (.int .i64 p)] (intsT (chM ss p)) := by
  refine PCall.intro (nt := 29) (rs := [.tmp 4]) Tryz.func24 rfl ⟨by kernel_rfl, by kernel_rfl, by kernel_rfl⟩ (by simp) ?_
  rintro ⟨P, w0, ok0, may, np, pblk⟩ rfl rfl
  repeat' (first | refine W.seq fun K hK => ?_ | refine W.block ?_ | ((first | refine wR ?_ | refine wD ?_ | refine W.skip ?_ | refine W.exit ?_ | refine W.ret (Post.ret ?_) | refine aP ?_ | refine aF ?_); simp only [go_sem, reduceCtorEq]) | refine wT ?_ | refine wF ?_ | refine wC (fun h => ?_) (fun h => ?_) | refine iK ?_ | refine aI2 ?_ | (refine hK _ ?_; clear hK K) | clear hK K)
  refine W.loopF (T := fun i : Nat => { t := [(0, spsT ss), (1, ft (.int .i64 p)), (5, .c (.ref 0)), (6, ft (.int .i64 (i : Nat)))], h := [(0, .row 3 (imR ((chM (ss.take i) p).map iA)))], nx := 1, ex := [], nt := 29 })
    (Inv := fun i => i ≤ ss.length) (μ := fun i => ss.length - i) (x0 := 0) ?_ (Nat.zero_le _) ?_
  · refine Fits.adopt 5 900 3 rfl rfl rfl tE3 rfl ?_
    refine Fits.fit [(900, 0)] [0, 1, 5, 6] 1 rfl rfl ?_
    simp only [go_sem]
    exact Fits.rfl
  rintro i hi KL hKL
  by_cases hlt : i < ss.length
  · obtain ⟨s, hs, hm, _⟩ := drop_at hlt
    have e1 : decide ((i : Int) < ss.length) = true := by simp; omega
    have e2 : decide (i < ss.length) = true := by simp; omega
    have hw := w64s i (by omega)
    have ht : chM (ss.take (i + 1)) p = chM (ss.take i) p ++ if s.pa == p then [s.id] else [] := by
      rw [List.take_add_one, hs]
      unfold chM
      rw [List.filter_append, List.map_append]
      cases h : (s.pa == p) <;> simp [h]
    have hcl : (chM (ss.take i) p).length ≤ i := by
      unfold chM
      rw [List.length_map]
      have := List.length_filter_le (fun s : Spn => s.pa == p) (ss.take i)
      rw [List.length_take] at this
      omega
    have hKL2 := fun (s' : St) h => hKL.to (s' := s') (i + 1) (by omega) (by omega) h
    rw [ht] at hKL2
    clear hKL ht
    generalize chM (ss.take i) p = out at *
    cases h1 : (s.pa == p) with
    | true =>
      have b1 : (out.length + 1) * 8 ≤ 140737488355328 := by omega
      rw [h1] at hKL2
      repeat' (first | refine W.seq fun K hK => ?_ | refine W.block ?_ | ((first | refine wR ?_ | refine wD ?_ | refine W.skip ?_ | refine W.exit ?_ | refine W.ret (Post.ret ?_) | refine aP ?_ | refine aF ?_); simp only [go_sem, reduceCtorEq, List.getElem?_map, hs, spA, e1, e2, h1, hw, b1, List.length_map, imR_len]) | refine wT ?_ | refine wF ?_ | refine wC (fun h => ?_) (fun h => ?_) | refine iK ?_ | refine aI2 ?_ | (refine hK _ ?_; clear hK K) | clear hK K)
      refine hKL2 _ (Fits.fit [(19, 0)] [0, 1, 5, 6] 1 rfl rfl ?_)
      simp only [go_sem, imR_snocI, if_true]
      exact Fits.rfl
    | false =>
      rw [h1] at hKL2
      repeat' (first | refine W.seq fun K hK => ?_ | refine W.block ?_ | ((first | refine wR ?_ | refine wD ?_ | refine W.skip ?_ | refine W.exit ?_ | refine W.ret (Post.ret ?_) | refine aP ?_ | refine aF ?_); simp only [go_sem, reduceCtorEq, List.getElem?_map, hs, spA, e1, e2, h1, hw, List.length_map]) | refine wT ?_ | refine wF ?_ | refine wC (fun h => ?_) (fun h => ?_) | refine iK ?_ | refine aI2 ?_ | (refine hK _ ?_; clear hK K) | clear hK K)
      refine hKL2 _ (Fits.fit [(0, 0)] [0, 1, 5, 6] 1 rfl rfl ?_)
      simp only [go_sem, Bool.false_eq_true, if_false, List.append_nil]
      exact Fits.rfl
  · obtain rfl : i = ss.length := by omega
    have e1 : decide ((ss.length : Int) < ss.length) = false := by simp
    rw [List.take_length]
    clear hKL
    repeat' (first | refine W.seq fun K hK => ?_ | refine W.block ?_ | ((first | refine wR ?_ | refine wD ?_ | refine W.skip ?_ | refine W.exit ?_ | refine W.ret (Post.ret ?_) | refine aP ?_ | refine aF ?_); simp only [go_sem, reduceCtorEq, e1, List.length_map]) | refine wT ?_ | refine wF ?_ | refine wC (fun h => ?_) (fun h => ?_) | refine iK ?_ | refine aI2 ?_ | (refine hK _ ?_; clear hK K) | clear hK K)
theorem ndI_at {ss : List Spn} {id : Int} (h : ndN ss id < ss.length) : ndI ss id = (ndN ss id : Int) := by unfold ndI; rw [if_pos h]
theorem ndI_no {ss : List Spn} {id : Int} (h : parS ss id = none) : ndI ss id = -1 := by
  unfold ndI
  rw [if_neg fun h1 => parS_none h (ndN_mem h1)]
theorem ancestors26_c (ss : List Spn) (id : Int) (hlen : ss.length ≤ 1000000) : PCall Tryz.prog 26 [spsT ss, ft (.int .i64 id)] (intsT (ancS ss id)) := by
  have cn := fun i => node22_c ss i
  have ch := has_c
  have c1 := cn id
  refine PCall.intro (nt := 47) (rs := [.tmp 4]) Tryz.func26 rfl ⟨by kernel_rfl, by kernel_rfl, by kernel_rfl⟩ (by simp) ?_
  rintro ⟨P, w0, ok0, may, np, pblk⟩ rfl rfl
  repeat' (first | refine W.seq fun K hK => ?_ | refine W.block ?_ | ((first | refine wR ?_ | refine wD ?_ | refine W.skip ?_ | refine W.exit ?_ | refine W.ret (Post.ret ?_) | refine aP ?_ | refine aF ?_); simp only [go_sem, reduceCtorEq]) | refine wT ?_ | refine wF ?_ | refine wC (fun h => ?_) (fun h => ?_) | refine iK ?_ | refine aI2 ?_ | (refine hK _ ?_; clear hK K) | clear hK K)
  clear c1
  refine W.loopF (T := fun x : Nat × Int × List Int => { t := [(0, spsT ss), (5, .c (.ref 0)), (6, ft (.int .i64 (ndI ss x.2.1)))], h := [(0, .row 3 (imR (x.2.2.map iA)))], nx := 1, ex := [], nt := 47 })
    (Inv := fun x => x.2.2.Nodup ∧ (∀ y ∈ x.2.2, y ∈ idsOf ss) ∧ (x.1 = 0 → ss.length < x.2.2.length) ∧ ss.length < x.1 + x.2.2.length ∧ ancG (parS ss) x.1 x.2.1 x.2.2 = ancS ss id) (μ := fun x => x.1) (x0 := (ss.length + 1, id, [])) ?_ ⟨List.nodup_nil, by simp, by simp, by simp, rfl⟩ ?_
  · refine Fits.adopt 5 900 3 rfl rfl rfl tE3 rfl ?_
    refine Fits.fit [(900, 0)] [0, 5, 6] 1 rfl rfl ?_
    simp only [go_sem, List.map_nil, imR_nil]
    exact Fits.rfl
  rintro ⟨k, c, out⟩ ⟨hnd, hsub, _, hfu, hR⟩ KL hKL
  dsimp only at hnd hsub hfu hR ⊢
  have hol := hnd.length_le_of_subset hsub
  rw [show (idsOf ss).length = ss.length by simp [idsOf]] at hol
  cases k with
  | zero => omega
  | succ k =>
  rw [ancG] at hR
  cases hp : parS ss c with
  | none =>
    have g1 : decide ((-1 : Int) ≥ 0) = false := by decide
    rw [hp] at hR
    dsimp only at hR
    clear hKL cn ch
    rw [ndI_no hp]
    repeat' (first | refine W.seq fun K hK => ?_ | refine W.block ?_ | ((first | refine wR ?_ | refine wD ?_ | refine W.skip ?_ | refine W.exit ?_ | refine W.ret (Post.ret ?_) | refine aP ?_ | refine aF ?_); simp only [go_sem, reduceCtorEq, g1]) | refine wT ?_ | refine wF ?_ | refine wC (fun h => ?_) (fun h => ?_) | refine iK ?_ | refine aI2 ?_ | (refine hK _ ?_; clear hK K) | clear hK K)
    rw [hR]
  | some p =>
    obtain ⟨s, hs, hid, rfl⟩ := parS_some hp
    rw [hp] at hR
    dsimp only at hR
    have hlt := (List.getElem?_eq_some_iff.1 hs).1
    have g1 : decide (((ndN ss c : Nat) : Int) ≥ 0) = true := by simp
    have g2 : decide (ndN ss c < ss.length) = true := by simp [hlt]
    have c2 := cn s.pa
    clear cn
    rw [ndI_at hlt]
    cases h0 : (s.pa == 0) with
    | true =>
      have h0' : s.pa = 0 := by simpa using h0
      have g3 : (s.pa != 0) = false := by simp [h0']
      rw [if_pos (.inl h0')] at hR
      clear hKL c2 ch
      repeat' (first | refine W.seq fun K hK => ?_ | refine W.block ?_ | ((first | refine wR ?_ | refine wD ?_ | refine W.skip ?_ | refine W.exit ?_ | refine W.ret (Post.ret ?_) | refine aP ?_ | refine aF ?_); simp only [go_sem, reduceCtorEq, List.getElem?_map, hs, spA, g1, g2, g3, List.length_map]) | refine wT ?_ | refine wF ?_ | refine wC (fun h => ?_) (fun h => ?_) | refine iK ?_ | refine aI2 ?_ | (refine hK _ ?_; clear hK K) | clear hK K)
      rw [hR]
    | false =>
      have h0' : ¬ s.pa = 0 := by simpa using h0
      have g3 : (s.pa != 0) = true := by simp [h0']
      cases hq : parS ss s.pa with
      | none =>
        have g4 : decide ((-1 : Int) < 0) = true := by decide
        have hR2 : out = ancS ss id := by
          rw [← hR, hq]
          split <;> rfl
        rw [ndI_no hq] at c2
        clear hKL ch
        repeat' (first | refine W.seq fun K hK => ?_ | refine W.block ?_ | ((first | refine wR ?_ | refine wD ?_ | refine W.skip ?_ | refine W.exit ?_ | refine W.ret (Post.ret ?_) | refine aP ?_ | refine aF ?_); simp only [go_sem, reduceCtorEq, List.getElem?_map, hs, spA, g1, g2, g3, g4, List.length_map]) | refine wT ?_ | refine wF ?_ | refine wC (fun h => ?_) (fun h => ?_) | refine iK ?_ | refine aI2 ?_ | (refine hK _ ?_; clear hK K) | clear hK K)
        rw [hR2]
      | some q =>
        obtain ⟨s2, hs2, hid2, rfl⟩ := parS_some hq
        have hlt2 := (List.getElem?_eq_some_iff.1 hs2).1
        have g4 : decide (((ndN ss s.pa : Nat) : Int) < 0) = false := by simp
        have g5 : decide (ndN ss s.pa < ss.length) = true := by simp [hlt2]
        rw [ndI_at hlt2] at c2
        have c3 := ch out s2.id
        clear ch
        rw [hid2] at c3
        cases h1 : out.contains s.pa with
        | true =>
          have h1' : s.pa ∈ out := List.contains_iff_mem.1 h1
          rw [if_pos (.inr h1')] at hR
          rw [h1] at c3
          clear hKL
          repeat' (first | refine W.seq fun K hK => ?_ | refine W.block ?_ | ((first | refine wR ?_ | refine wD ?_ | refine W.skip ?_ | refine W.exit ?_ | refine W.ret (Post.ret ?_) | refine aP ?_ | refine aF ?_); simp only [go_sem, reduceCtorEq, List.getElem?_map, hs, hs2, hid2, spA, g1, g2, g3, g4, g5, List.length_map]) | refine wT ?_ | refine wF ?_ | refine wC (fun h => ?_) (fun h => ?_) | refine iK ?_ | refine aI2 ?_ | (refine hK _ ?_; clear hK K) | clear hK K)
          rw [hR]
        | false =>
          have h1' : ¬ s.pa ∈ out := fun h => by rw [List.contains_iff_mem.2 h] at h1; cases h1
          rw [if_neg (fun h => h.elim h0' h1'), hq] at hR
          dsimp only at hR
          rw [h1] at c3
          have b1 : (out.length + 1) * 8 ≤ 140737488355328 := by omega
          repeat' (first | refine W.seq fun K hK => ?_ | refine W.block ?_ | ((first | refine wR ?_ | refine wD ?_ | refine W.skip ?_ | refine W.exit ?_ | refine W.ret (Post.ret ?_) | refine aP ?_ | refine aF ?_); simp only [go_sem, reduceCtorEq, List.getElem?_map, hs, hs2, hid2, spA, g1, g2, g3, g4, g5, b1, List.length_map, imR_len]) | refine wT ?_ | refine wF ?_ | refine wC (fun h => ?_) (fun h => ?_) | refine iK ?_ | refine aI2 ?_ | (refine hK _ ?_; clear hK K) | clear hK K)
          have hm2 : s.pa ∈ idsOf ss := ndN_mem hlt2
          refine hKL.to (k, s.pa, out ++ [s.pa]) ⟨List.nodup_append.2 ⟨hnd, by simp, fun a ha b hb e => by simp at hb; subst hb; exact h1' (e ▸ ha)⟩, fun y hy => ?_, fun _ => ?_, by rw [List.length_append, List.length_singleton]; omega, hR⟩ (Nat.lt_succ_self k) (Fits.fit [(37, 0)] [0, 5, 6] 1 rfl rfl ?_)
          · rcases List.mem_append.1 hy with hy | hy
            · exact hsub y hy
            · obtain rfl : y = s.pa := by simpa using hy
              exact hm2
          · rw [List.length_append, List.length_singleton]; omega
          · simp only [go_sem, imR_snocI, ndI_at hlt2]
            exact Fits.rfl
theorem ancG_ids {ss : List Spn} : ∀ (k : Nat) (x : Int) (out : List Int), (∀ y ∈ out, y ∈ idsOf ss) → ∀ y ∈ ancG (parS ss) k x out, y ∈ idsOf ss
  | 0, _, _, h => h
  | k + 1, x, out, h => by
    unfold ancG
    cases parS ss x with
    | none => exact h
    | some p =>
      dsimp only
      split
      · exact h
      · cases hq : parS ss p with
        | none => exact h
        | some q =>
          refine ancG_ids k p (out ++ [p]) fun y hy => ?_
          rcases List.mem_append.1 hy with hy | hy
          · exact h y hy
          · obtain rfl : y = p := by simpa using hy
            obtain ⟨s, h1, h2, _⟩ := parS_some hq
            exact ndN_mem (List.getElem?_eq_some_iff.1 h1).1
theorem ancG_nodup {ss : List Spn} : ∀ (k : Nat) (x : Int) (out : List Int), out.Nodup → (ancG (parS ss) k x out).Nodup
  | 0, _, _, h => h
  | k + 1, x, out, h => by
    unfold ancG
    cases parS ss x with
    | none => exact h
    | some p =>
      dsimp only
      split
      · exact h
      · rename_i hn
        cases hq : parS ss p with
        | none => exact h
        | some q => exact ancG_nodup k p (out ++ [p]) (List.nodup_append.2 ⟨h, by simp, fun a ha b hb e => by simp at hb; subst hb; exact hn (.inr (e ▸ ha))⟩)
theorem ancS_ids {ss : List Spn} {id y : Int} (h : y ∈ ancS ss id) : y ∈ idsOf ss := ancG_ids _ _ _ (by simp) y h
theorem ancS_len (ss : List Spn) (id : Int) : (ancS ss id).length ≤ ss.length := by
  have h1 : (ancS ss id).Nodup := ancG_nodup _ _ _ List.nodup_nil
  have := h1.length_le_of_subset fun y h => ancS_ids h
  rwa [show (idsOf ss).length = ss.length by simp [idsOf]] at this
theorem last_ids {ss : List Spn} {id : Int} (h : id ∈ idsOf ss) : (ancS ss id).getLastD id ∈ idsOf ss := by
  rcases List.eq_nil_or_concat (ancS ss id) with e | ⟨L, x, e⟩
  · rw [e]; exact h
  · have e2 : ancS ss id = L ++ [x] := by rw [e]; simp
    rw [e2, getLastD_snoc]
    exact ancS_ids (id := id) (by rw [e2]; simp)
theorem cyclic_c (ss : List Spn) (id : Int) (hid : id ∈ idsOf ss) (hlen : ss.length ≤ 1000000) : PCall Tryz.prog 56 [spsT ss, ft (.int .i64 id)] (ft (.bool (cycM ss id))) := by
  have c26 := ancestors26_c ss id hlen
  have cn := fun i => node22_c ss i
  have hl := last_ids hid
  have hal := ancS_len ss id
  have hin := ndN_in hl
  have c1 := cn ((ancS ss id).getLastD id)
  rw [ndI_at hin] at c1
  obtain ⟨s, hs⟩ : ∃ s, ss[ndN ss ((ancS ss id).getLastD id)]? = some s := ⟨_, List.getElem?_eq_getElem hin⟩
  have hsi := ndN_at hs
  have c2 := cn s.pa
  have hpar : parS ss ((ancS ss id).getLastD id) = some s.pa := by unfold parS; rw [hs]; rfl
  have hcy : cycM ss id = (decide (s.pa ≠ 0) && (parS ss s.pa).isSome) := by unfold cycM; rw [hpar]
  clear cn
  rw [hcy]
  clear hcy hpar hsi
  generalize htop : (ancS ss id).getLastD id = top at *
  have g2 : decide (ndN ss top < ss.length) = true := by simp [hin]
  rcases List.eq_nil_or_concat (ancS ss id) with e | ⟨L, x, e⟩
  · rw [e] at c26 htop
    obtain rfl : id = top := htop
    have g1 : decide (((([] : List Int).length : Nat) : Int) > 0) = false := by decide
    cases h0 : (s.pa == 0) with
    | true =>
      have h0' : s.pa = 0 := by simpa using h0
      have g3 : (s.pa != 0) = false := by simp [h0']
      clear c2
      refine PCall.intro (nt := 40) (rs := [.tmp 4]) Tryz.func56 rfl ⟨by kernel_rfl, by kernel_rfl, by kernel_rfl⟩ (by simp) ?_
      rintro ⟨P, w0, ok0, may, np, pblk⟩ rfl rfl
      repeat' (first | refine W.seq fun K hK => ?_ | refine W.block ?_ | ((first | refine wR ?_ | refine wD ?_ | refine W.skip ?_ | refine W.exit ?_ | refine W.ret (Post.ret ?_) | refine aP ?_ | refine aF ?_); simp only [go_sem, reduceCtorEq, List.getElem?_map, hs, spA, g1, g2, g3, List.length_map, List.map]) | refine wT ?_ | refine wF ?_ | refine wC (fun h => ?_) (fun h => ?_) | refine iK ?_ | refine aI2 ?_ | (refine hK _ ?_; clear hK K) | clear hK K)
      simp [h0']
    | false =>
      have h0' : ¬ s.pa = 0 := by simpa using h0
      have g3 : (s.pa != 0) = true := by simp [h0']
      cases hq : parS ss s.pa with
      | none =>
        rw [ndI_no hq] at c2
        have g4 : decide ((-1 : Int) ≥ 0) = false := by decide
        refine PCall.intro (nt := 40) (rs := [.tmp 4]) Tryz.func56 rfl ⟨by kernel_rfl, by kernel_rfl, by kernel_rfl⟩ (by simp) ?_
        rintro ⟨P, w0, ok0, may, np, pblk⟩ rfl rfl
        repeat' (first | refine W.seq fun K hK => ?_ | refine W.block ?_ | ((first | refine wR ?_ | refine wD ?_ | refine W.skip ?_ | refine W.exit ?_ | refine W.ret (Post.ret ?_) | refine aP ?_ | refine aF ?_); simp only [go_sem, reduceCtorEq, List.getElem?_map, hs, spA, g1, g2, g3, g4, List.length_map, List.map]) | refine wT ?_ | refine wF ?_ | refine wC (fun h => ?_) (fun h => ?_) | refine iK ?_ | refine aI2 ?_ | (refine hK _ ?_; clear hK K) | clear hK K)
        simp
      | some q =>
        obtain ⟨s2, hs2, _, _⟩ := parS_some hq
        rw [ndI_at (List.getElem?_eq_some_iff.1 hs2).1] at c2
        have g4 : decide (((ndN ss s.pa : Nat) : Int) ≥ 0) = true := by simp
        refine PCall.intro (nt := 40) (rs := [.tmp 4]) Tryz.func56 rfl ⟨by kernel_rfl, by kernel_rfl, by kernel_rfl⟩ (by simp) ?_
        rintro ⟨P, w0, ok0, may, np, pblk⟩ rfl rfl
        repeat' (first | refine W.seq fun K hK => ?_ | refine W.block ?_ | ((first | refine wR ?_ | refine wD ?_ | refine W.skip ?_ | refine W.exit ?_ | refine W.ret (Post.ret ?_) | refine aP ?_ | refine aF ?_); simp only [go_sem, reduceCtorEq, List.getElem?_map, hs, spA, g1, g2, g3, g4, List.length_map, List.map]) | refine wT ?_ | refine wF ?_ | refine wC (fun h => ?_) (fun h => ?_) | refine iK ?_ | refine aI2 ?_ | (refine hK _ ?_; clear hK K) | clear hK K)
        simp [h0']
  · have e2 : ancS ss id = L ++ [x] := by rw [e]; simp
    rw [e2] at c26 htop hal
    rw [getLastD_snoc] at htop
    subst htop
    have hLl : (L ++ [x]).length = L.length + 1 := by simp
    have g1 : decide (((L.length + 1 : Nat) : Int) > 0) = true := by rw [decide_eq_true_eq]; omega
    have g5 : decide (L.length < L.length + 1) = true := by simp
    have g6 : (L ++ [x])[L.length]? = some x := by simp
    have hw : IntKind.i64.wrap (((L.length + 1 : Nat) : Int) - 1) = ((L.length : Nat) : Int) := by rw [w64 (by omega) (by omega)]; omega
    cases h0 : (s.pa == 0) with
    | true =>
      have h0' : s.pa = 0 := by simpa using h0
      have g3 : (s.pa != 0) = false := by simp [h0']
      clear c2
      refine PCall.intro (nt := 40) (rs := [.tmp 4]) Tryz.func56 rfl ⟨by kernel_rfl, by kernel_rfl, by kernel_rfl⟩ (by simp) ?_
      rintro ⟨P, w0, ok0, may, np, pblk⟩ rfl rfl
      repeat' (first | refine W.seq fun K hK => ?_ | refine W.block ?_ | ((first | refine wR ?_ | refine wD ?_ | refine W.skip ?_ | refine W.exit ?_ | refine W.ret (Post.ret ?_) | refine aP ?_ | refine aF ?_); simp only [go_sem, reduceCtorEq, List.getElem?_map, hs, spA, iA, g1, g2, g3, g5, g6, hw, hLl, List.length_map]) | refine wT ?_ | refine wF ?_ | refine wC (fun h => ?_) (fun h => ?_) | refine iK ?_ | refine aI2 ?_ | (refine hK _ ?_; clear hK K) | clear hK K)
      simp [h0']
    | false =>
      have h0' : ¬ s.pa = 0 := by simpa using h0
      have g3 : (s.pa != 0) = true := by simp [h0']
      cases hq : parS ss s.pa with
      | none =>
        rw [ndI_no hq] at c2
        have g4 : decide ((-1 : Int) ≥ 0) = false := by decide
        refine PCall.intro (nt := 40) (rs := [.tmp 4]) Tryz.func56 rfl ⟨by kernel_rfl, by kernel_rfl, by kernel_rfl⟩ (by simp) ?_
        rintro ⟨P, w0, ok0, may, np, pblk⟩ rfl rfl
        repeat' (first | refine W.seq fun K hK => ?_ | refine W.block ?_ | ((first | refine wR ?_ | refine wD ?_ | refine W.skip ?_ | refine W.exit ?_ | refine W.ret (Post.ret ?_) | refine aP ?_ | refine aF ?_); simp only [go_sem, reduceCtorEq, List.getElem?_map, hs, spA, iA, g1, g2, g3, g4, g5, g6, hw, hLl, List.length_map]) | refine wT ?_ | refine wF ?_ | refine wC (fun h => ?_) (fun h => ?_) | refine iK ?_ | refine aI2 ?_ | (refine hK _ ?_; clear hK K) | clear hK K)
        simp
      | some q =>
        obtain ⟨s2, hs2, _, _⟩ := parS_some hq
        rw [ndI_at (List.getElem?_eq_some_iff.1 hs2).1] at c2
        have g4 : decide (((ndN ss s.pa : Nat) : Int) ≥ 0) = true := by simp
        refine PCall.intro (nt := 40) (rs := [.tmp 4]) Tryz.func56 rfl ⟨by kernel_rfl, by kernel_rfl, by kernel_rfl⟩ (by simp) ?_
        rintro ⟨P, w0, ok0, may, np, pblk⟩ rfl rfl
        repeat' (first | refine W.seq fun K hK => ?_ | refine W.block ?_ | ((first | refine wR ?_ | refine wD ?_ | refine W.skip ?_ | refine W.exit ?_ | refine W.ret (Post.ret ?_) | refine aP ?_ | refine aF ?_); simp only [go_sem, reduceCtorEq, List.getElem?_map, hs, spA, iA, g1, g2, g3, g4, g5, g6, hw, hLl, List.length_map]) | refine wT ?_ | refine wF ?_ | refine wC (fun h => ?_) (fun h => ?_) | refine iK ?_ | refine aI2 ?_ | (refine hK _ ?_; clear hK K) | clear hK K)
        simp [h0']
end Go.Proofs.YtigenjeealkdlaaGreat
namespace Go.Proofs.YtigenjeealkdlaaGreat
open Go.RowKit Go.Exe
theorem flt_step {α : Type} {ss : List Spn} {i : Nat} {s : Spn} (h : ss[i]? = some s) (p : Spn → Bool) (f : Spn → α) : ((ss.take (i + 1)).filter p).map f = ((ss.take i).filter p).map f ++ if p s then [f s] else [] := by
  rw [List.take_add_one, h]
  rw [List.filter_append, List.map_append]
  cases h : p s <;> simp [h]
theorem flt_le {α : Type} (ss : List Spn) (i : Nat) (p : Spn → Bool) (f : Spn → α) : (((ss.take i).filter p).map f).length ≤ i := by
  rw [List.length_map]
  have := List.length_filter_le p (ss.take i)
  rw [List.length_take] at this
  omega
theorem imR_snocN (l : List Nd) (a b c : Int) (ch : List Int) : imR (l.map ndA) ++ [[.im (.flat (.int .i64 a)), .im (.flat (.int .i64 b)), .im (.flat (.int .i64 c)), .im (.sl 3 (ch.map iA))]] = imR ((l ++ [Nd.mk a b c ch]).map ndA) := by simp [imR, imL, ndA]
abbrev zB : List Cell := [fl (.int .i64 0), fl (.slice none 0 0), fl (.slice none 0 0), fl (.slice none 0 0), fl (.slice none 0 0), fl (.slice none 0 0)]
attribute [local irreducible] W AX Run RunD AStep AOp AOpX AStB AStH AStG Fits PCall GCall PostG Post Stop
theorem build17_c (c144 : SortC Tryz.prog 144 14) (l : List Spn) (t : Int) (hlen : (ofS l t).length ≤ 1000000) : PCall Tryz.prog 17 [spsT l, ft (.int .i64 t)] (trT (mTree t (ofS l t))) := by
  have c50 := of_c c144 l t
  generalize hss : ofS l t = ss at *
  have ch := fun p => children_c ss p hlen
  have ca := fun p => ancestors26_c ss p hlen
  have cn := fun p => node22_c ss p
  have cc := fun p hp => cyclic_c ss p hp hlen
  clear c144 hss
  refine PCall.intro (nt := 117) (rs := [.cell 4 28]) Tryz.func17 rfl ⟨by kernel_rfl, by kernel_rfl, by kernel_rfl⟩ (by simp) ?_
  rintro ⟨P, w0, ok0, may, np, pblk⟩ rfl rfl
  repeat' (first | refine W.seq fun K hK => ?_ | refine W.block ?_ | ((first | refine wR ?_ | refine wD ?_ | refine W.skip ?_ | refine W.exit ?_ | refine W.ret (Post.ret ?_) | refine aP ?_ | refine aF ?_); simp only [go_sem, reduceCtorEq]) | refine wT ?_ | refine wF ?_ | refine wC (fun h => ?_) (fun h => ?_) | refine iK ?_ | refine aI2 ?_ | (refine hK _ ?_; clear hK K) | clear hK K)
  refine W.loopF (T := fun i : Nat => { t := [(4, .c (.ptr 0 0)), (5, spsT ss), (6, .c (.ptr 1 0)), (7, .c (.ref 6)), (8, ft (.int .i64 (i : Nat)))], h := [(0, .box 28 zB), (1, .box 28 [fl (.int .i64 t), .ref 2, .ref 3, .ref 4, .ref 5, fl (.slice none 0 0)]), (2, .row 35 (imR ((mNds ss i).map ndA))), (3, .row 3 (imR ((mRoots ss i).map iA))), (4, .row 3 (imR ((mOrph ss i).map iA))), (5, .row 3 (imR ((mCyc ss i).map iA))), (6, .row 3 (imR ((mMiss ss i).map iA)))], nx := 7, ex := [], nt := 117 })
    (Inv := fun i => i ≤ ss.length) (μ := fun i => ss.length - i) (x0 := 0) ?_ (Nat.zero_le _) ?_
  · refine Fits.adoptB 7 28 _ 1 91 35 rfl rfl rfl rfl tE35 rfl ?_
    refine Fits.adoptB 7 28 _ 2 92 3 rfl rfl rfl rfl tE3 rfl ?_
    refine Fits.adoptB 7 28 _ 3 93 3 rfl rfl rfl rfl tE3 rfl ?_
    refine Fits.adoptB 7 28 _ 4 94 3 rfl rfl rfl rfl tE3 rfl ?_
    refine Fits.adopt 7 95 3 rfl rfl rfl tE3 rfl ?_
    refine Fits.fit [(0, 0), (7, 1), (91, 2), (92, 3), (93, 4), (94, 5), (95, 6)] [4, 5, 6, 7, 8] 7 rfl rfl ?_
    simp only [go_sem]
    exact Fits.rfl
  rintro i hi KL hKL
  by_cases hlt : i < ss.length
  · obtain ⟨s, hs, hm, _⟩ := drop_at hlt
    have e1 : decide ((i : Int) < ss.length) = true := by simp; omega
    have e2 : decide (i < ss.length) = true := by simp; omega
    have hw := w64s i (by omega)
    have hid : s.id ∈ idsOf ss := List.mem_map_of_mem hm
    have c24 := ch s.id
    have c26 := ca s.id
    have c56 := cc s.id hid
    have c22 := cn s.pa
    clear ch ca cn cc
    have t1 : mNds ss (i + 1) = mNds ss i ++ [⟨s.id, s.pa, depM ss s.id, chM ss s.id⟩] := by unfold mNds; rw [List.take_add_one, hs]; simp
    have t2 := flt_step hs (fun s => !cycM ss s.id && s.pa == 0) Spn.id
    have t3 := flt_step hs (fun s => !cycM ss s.id && s.pa != 0 && decide (ndI ss s.pa < 0)) Spn.id
    have t4 := flt_step hs (fun s => cycM ss s.id) Spn.id
    have t5 := flt_step hs (fun s => !cycM ss s.id && s.pa != 0 && decide (ndI ss s.pa < 0)) Spn.pa
    have l1 : (mNds ss i).length ≤ i := by unfold mNds; rw [List.length_map, List.length_take]; omega
    have l2 : (mRoots ss i).length ≤ i := flt_le ss i _ _
    have l3 : (mOrph ss i).length ≤ i := flt_le ss i _ _
    have l4 : (mCyc ss i).length ≤ i := flt_le ss i _ _
    have l5 : (mMiss ss i).length ≤ i := flt_le ss i _ _
    change mRoots ss (i + 1) = mRoots ss i ++ _ at t2
    change mOrph ss (i + 1) = mOrph ss i ++ _ at t3
    change mCyc ss (i + 1) = mCyc ss i ++ _ at t4
    change mMiss ss (i + 1) = mMiss ss i ++ _ at t5
    have b1 : ((mNds ss i).length + 1) * 32 ≤ 140737488355328 := by omega
    have b2 : ((mRoots ss i).length + 1) * 8 ≤ 140737488355328 := by omega
    have b3 : ((mOrph ss i).length + 1) * 8 ≤ 140737488355328 := by omega
    have b4 : ((mCyc ss i).length + 1) * 8 ≤ 140737488355328 := by omega
    have b5 : ((mMiss ss i).length + 1) * 8 ≤ 140737488355328 := by omega
    have hd : depM ss s.id = if cycM ss s.id then -1 else ((ancS ss s.id).length : Int) := rfl
    cases hc : cycM ss s.id with
    | true =>
      rw [hc] at c56
      rw [hc] at hd t2 t3 t4 t5
      rw [if_pos rfl] at hd
      simp only [Bool.not_true, Bool.false_and, Bool.false_eq_true, if_false, List.append_nil, if_true] at t2 t3 t4 t5
      repeat' (first | refine W.seq fun K hK => ?_ | refine W.block ?_ | ((first | refine wR ?_ | refine wD ?_ | refine W.skip ?_ | refine W.exit ?_ | refine W.ret (Post.ret ?_) | refine aP ?_ | refine aF ?_); simp only [go_sem, reduceCtorEq, List.getElem?_map, hs, spA, e1, e2, hw, b1, b4, List.length_map, imR_len]) | refine wT ?_ | refine wF ?_ | refine wC (fun h => ?_) (fun h => ?_) | refine iK ?_ | refine aI2 ?_ | (refine hK _ ?_; clear hK K) | clear hK K)
      refine hKL.to (i + 1) (by omega) (by omega) (Fits.fit [(0, 0), (1, 1), (63, 2), (3, 3), (4, 4), (56, 5), (6, 6)] [4, 5, 6, 7, 8] 7 rfl rfl ?_)
      simp only [go_sem, t1, t2, t3, t4, t5, imR_snocI, imR_snocN, hd]
      exact Fits.rfl
    | false =>
      rw [hc] at c56
      rw [hc] at hd t2 t3 t4 t5
      simp only [Bool.not_false, Bool.true_and, Bool.false_eq_true, if_false, List.append_nil] at hd t2 t3 t4 t5
      cases h0 : (s.pa == 0) with
      | true =>
        have h1 : (s.pa != 0) = false := by simpa using h0
        rw [h0] at t2
        rw [h1] at t3 t5
        simp only [Bool.false_and, Bool.false_eq_true, if_false, List.append_nil, if_true] at t2 t3 t5
        repeat' (first | refine W.seq fun K hK => ?_ | refine W.block ?_ | ((first | refine wR ?_ | refine wD ?_ | refine W.skip ?_ | refine W.exit ?_ | refine W.ret (Post.ret ?_) | refine aP ?_ | refine aF ?_); simp only [go_sem, reduceCtorEq, List.getElem?_map, hs, spA, e1, e2, hw, h0, b1, b2, List.length_map, imR_len]) | refine wT ?_ | refine wF ?_ | refine wC (fun h => ?_) (fun h => ?_) | refine iK ?_ | refine aI2 ?_ | (refine hK _ ?_; clear hK K) | clear hK K)
        refine hKL.to (i + 1) (by omega) (by omega) (Fits.fit [(0, 0), (1, 1), (67, 2), (60, 3), (4, 4), (5, 5), (6, 6)] [4, 5, 6, 7, 8] 7 rfl rfl ?_)
        simp only [go_sem, t1, t2, t3, t4, t5, imR_snocI, imR_snocN, hd]
        exact Fits.rfl
      | false =>
        have h1 : (s.pa != 0) = true := by simpa using h0
        rw [h0] at t2
        rw [h1] at t3 t5
        simp only [Bool.true_and, Bool.false_eq_true, if_false, List.append_nil] at t2 t3 t5
        cases h2 : decide (ndI ss s.pa < 0) with
        | true =>
          rw [h2] at t3 t5
          simp only [if_true] at t3 t5
          repeat' (first | refine W.seq fun K hK => ?_ | refine W.block ?_ | ((first | refine wR ?_ | refine wD ?_ | refine W.skip ?_ | refine W.exit ?_ | refine W.ret (Post.ret ?_) | refine aP ?_ | refine aF ?_); simp only [go_sem, reduceCtorEq, List.getElem?_map, hs, spA, e1, e2, hw, h0, h2, b1, b3, b5, List.length_map, imR_len]) | refine wT ?_ | refine wF ?_ | refine wC (fun h => ?_) (fun h => ?_) | refine iK ?_ | refine aI2 ?_ | (refine hK _ ?_; clear hK K) | clear hK K)
          refine hKL.to (i + 1) (by omega) (by omega) (Fits.fit [(0, 0), (1, 1), (84, 2), (3, 3), (68, 4), (5, 5), (76, 6)] [4, 5, 6, 7, 8] 7 rfl rfl ?_)
          simp only [go_sem, t1, t2, t3, t4, t5, imR_snocI, imR_snocN, hd]
          exact Fits.rfl
        | false =>
          rw [h2] at t3 t5
          simp only [Bool.false_eq_true, if_false, List.append_nil] at t3 t5
          repeat' (first | refine W.seq fun K hK => ?_ | refine W.block ?_ | ((first | refine wR ?_ | refine wD ?_ | refine W.skip ?_ | refine W.exit ?_ | refine W.ret (Post.ret ?_) | refine aP ?_ | refine aF ?_); simp only [go_sem, reduceCtorEq, List.getElem?_map, hs, spA, e1, e2, hw, h0, h2, b1, List.length_map, imR_len]) | refine wT ?_ | refine wF ?_ | refine wC (fun h => ?_) (fun h => ?_) | refine iK ?_ | refine aI2 ?_ | (refine hK _ ?_; clear hK K) | clear hK K)
          refine hKL.to (i + 1) (by omega) (by omega) (Fits.fit [(0, 0), (1, 1), (64, 2), (3, 3), (4, 4), (5, 5), (6, 6)] [4, 5, 6, 7, 8] 7 rfl rfl ?_)
          simp only [go_sem, t1, t2, t3, t4, t5, imR_snocI, imR_snocN, hd]
          exact Fits.rfl
  · obtain rfl : i = ss.length := by omega
    have e1 : decide ((ss.length : Int) < ss.length) = false := by simp
    have c16 := sorted16_c (mMiss ss ss.length)
    clear hKL
    repeat' (first | refine W.stop (id := 17) ?_ | refine W.seq fun K hK => ?_ | refine W.block ?_ | ((first | refine wR ?_ | refine wD ?_ | refine W.skip ?_ | refine W.exit ?_ | refine W.ret (Post.ret ?_) | refine aP ?_ | refine aF ?_); simp only [go_sem, reduceCtorEq, e1, List.length_map]) | refine wT ?_ | refine wF ?_ | refine wC (fun h => ?_) (fun h => ?_) | refine iK ?_ | refine aI2 ?_ | (refine hK _ ?_; clear hK K) | clear hK K)
    refine Stop.out ?_
    refine W.fits (s' := { t := [(4, .c (.ptr 0 0)), (6, .c (.ptr 1 0))], h := [(0, .box 28 zB), (1, .box 28 [fl (.int .i64 t), .im (.sl 35 ((mNds ss ss.length).map ndA)), .im (.sl 3 ((mRoots ss ss.length).map iA)), .im (.sl 3 ((mOrph ss ss.length).map iA)), .im (.sl 3 ((mCyc ss ss.length).map iA)), .im (.sl 3 ((sortU (mMiss ss ss.length)).map iA))])], nx := 2, ex := [], nt := 117 }) ?_ ?_
    · refine Fits.freeze 2 rfl (unim_im _) ?_
      refine Fits.freeze 3 rfl (unim_im _) ?_
      refine Fits.freeze 4 rfl (unim_im _) ?_
      refine Fits.freeze 5 rfl (unim_im _) ?_
      refine Fits.seeO 1 2 rfl rfl ?_
      refine Fits.seeO 1 3 rfl rfl ?_
      refine Fits.seeO 1 4 rfl rfl ?_
      refine Fits.seeO 1 5 rfl rfl ?_
      refine Fits.fit [(0, 0), (1, 1)] [4, 6] 2 rfl rfl ?_
      simp only [go_sem]
      exact Fits.rfl
    repeat' (first | refine W.seq fun K hK => ?_ | refine W.block ?_ | ((first | refine wR ?_ | refine wD ?_ | refine W.skip ?_ | refine W.exit ?_ | refine W.ret (Post.ret ?_) | refine aP ?_ | refine aF ?_); simp only [go_sem, reduceCtorEq, mTree, trA]) | refine wT ?_ | refine wF ?_ | refine wC (fun h => ?_) (fun h => ?_) | refine iK ?_ | refine aI2 ?_ | (refine hK _ ?_; clear hK K) | clear hK K)
    rfl
end Go.Proofs.YtigenjeealkdlaaGreat
namespace Go.Proofs.YtigenjeealkdlaaGreat
open Go.RowKit Go.Exe
/-! ### trees are compared -/
def trEq (a b : Tr) : Bool := a.tr == b.tr && decide (a.nds = b.nds) && decide (a.roots = b.roots) && decide (a.orph = b.orph) && decide (a.cyc = b.cyc) && decide (a.miss = b.miss)
theorem trEq_refl (a : Tr) : trEq a a = true := by simp [trEq]
abbrev trB (t : Tr) : List Cell := [.im (.flat (.int .i64 t.tr)), .im (.sl 35 (t.nds.map ndA)), .im (.sl 3 (t.roots.map iA)), .im (.sl 3 (t.orph.map iA)), .im (.sl 3 (t.cyc.map iA)), .im (.sl 3 (t.miss.map iA))]
attribute [local irreducible] W AX Run RunD AStep AOp AOpX AStB AStH AStG Fits PCall GCall PostG Post Stop
theorem sameTrees_c (a b : Tr) : PCall Tryz.prog 18 [trT a, trT b] (ft (.bool (trEq a b))) := by
  have s1 := same_c a.roots b.roots
  have s2 := same_c a.orph b.orph
  have s3 := same_c a.cyc b.cyc
  have s4 := same_c a.miss b.miss
  simp only [trT, trA, List.map]
  refine PCall.intro (nt := 98) (rs := [.tmp 4]) Tryz.func18 rfl ⟨by kernel_rfl, by kernel_rfl, by kernel_rfl⟩ (by simp) ?_
  rintro ⟨P, w0, ok0, may, np, pblk⟩ rfl rfl
  refine W.fits (s' := { t := [(0, .g (trB a)), (1, .g (trB b))], h := [], nx := 0, ex := [], nt := 98 }) Fits.rfl ?_
  unfold trEq
  cases h0 : (a.tr == b.tr) with
  | false =>
    have g0 : (a.tr != b.tr) = true := by simpa using h0
    clear s1 s2 s3 s4
    repeat' (first | refine W.seq fun K hK => ?_ | refine W.block ?_ | ((first | refine wR ?_ | refine wD ?_ | refine W.skip ?_ | refine W.exit ?_ | refine W.ret (Post.ret ?_) | refine aP ?_ | refine aF ?_); simp only [go_sem, reduceCtorEq, g0, Bool.false_and]) | refine wT ?_ | refine wF ?_ | refine wC (fun h => ?_) (fun h => ?_) | refine iK ?_ | refine aI2 ?_ | (refine hK _ ?_; clear hK K) | clear hK K)
  | true =>
  have g0 : (a.tr != b.tr) = false := by simpa using h0
  cases h1 : ((a.nds.length : Int) == (b.nds.length : Int)) with
  | false =>
    have g1 : ((a.nds.length : Int) != (b.nds.length : Int)) = true := by simpa using h1
    have hne : decide (a.nds = b.nds) = false := by
      rw [decide_eq_false_iff_not]
      intro e
      rw [e] at h1
      simp at h1
    clear s1 s2 s3 s4
    repeat' (first | refine W.seq fun K hK => ?_ | refine W.block ?_ | ((first | refine wR ?_ | refine wD ?_ | refine W.skip ?_ | refine W.exit ?_ | refine W.ret (Post.ret ?_) | refine aP ?_ | refine aF ?_); simp only [go_sem, reduceCtorEq, g0, g1, hne, Bool.false_and, Bool.and_false, List.length_map]) | refine wT ?_ | refine wF ?_ | refine wC (fun h => ?_) (fun h => ?_) | refine iK ?_ | refine aI2 ?_ | (refine hK _ ?_; clear hK K) | clear hK K)
  | true =>
  have g1 : ((a.nds.length : Int) != (b.nds.length : Int)) = false := by simpa using h1
  have hl : a.nds.length = b.nds.length := by simp at h1; omega
  clear h1
  cases h2 : decide (a.roots = b.roots) with
  | false =>
    rw [h2] at s1
    clear s2 s3 s4
    repeat' (first | refine W.seq fun K hK => ?_ | refine W.block ?_ | ((first | refine wR ?_ | refine wD ?_ | refine W.skip ?_ | refine W.exit ?_ | refine W.ret (Post.ret ?_) | refine aP ?_ | refine aF ?_); simp only [go_sem, reduceCtorEq, g0, g1, Bool.false_and, Bool.and_false, List.length_map]) | refine wT ?_ | refine wF ?_ | refine wC (fun h => ?_) (fun h => ?_) | refine iK ?_ | refine aI2 ?_ | (refine hK _ ?_; clear hK K) | clear hK K)
  | true =>
  rw [h2] at s1
  cases h3 : decide (a.orph = b.orph) with
  | false =>
    rw [h3] at s2
    clear s3 s4
    repeat' (first | refine W.seq fun K hK => ?_ | refine W.block ?_ | ((first | refine wR ?_ | refine wD ?_ | refine W.skip ?_ | refine W.exit ?_ | refine W.ret (Post.ret ?_) | refine aP ?_ | refine aF ?_); simp only [go_sem, reduceCtorEq, g0, g1, Bool.false_and, Bool.and_false, List.length_map]) | refine wT ?_ | refine wF ?_ | refine wC (fun h => ?_) (fun h => ?_) | refine iK ?_ | refine aI2 ?_ | (refine hK _ ?_; clear hK K) | clear hK K)
  | true =>
  rw [h3] at s2
  cases h4 : decide (a.cyc = b.cyc) with
  | false =>
    rw [h4] at s3
    clear s4
    repeat' (first | refine W.seq fun K hK => ?_ | refine W.block ?_ | ((first | refine wR ?_ | refine wD ?_ | refine W.skip ?_ | refine W.exit ?_ | refine W.ret (Post.ret ?_) | refine aP ?_ | refine aF ?_); simp only [go_sem, reduceCtorEq, g0, g1, Bool.false_and, Bool.and_false, List.length_map]) | refine wT ?_ | refine wF ?_ | refine wC (fun h => ?_) (fun h => ?_) | refine iK ?_ | refine aI2 ?_ | (refine hK _ ?_; clear hK K) | clear hK K)
  | true =>
  rw [h4] at s3
  cases h5 : decide (a.miss = b.miss) with
  | false =>
    rw [h5] at s4
    repeat' (first | refine W.seq fun K hK => ?_ | refine W.block ?_ | ((first | refine wR ?_ | refine wD ?_ | refine W.skip ?_ | refine W.exit ?_ | refine W.ret (Post.ret ?_) | refine aP ?_ | refine aF ?_); simp only [go_sem, reduceCtorEq, g0, g1, Bool.false_and, Bool.and_false, List.length_map]) | refine wT ?_ | refine wF ?_ | refine wC (fun h => ?_) (fun h => ?_) | refine iK ?_ | refine aI2 ?_ | (refine hK _ ?_; clear hK K) | clear hK K)
  | true =>
  rw [h5] at s4
  simp only [Bool.true_and, Bool.and_true]
  repeat' (first | refine W.seq fun K hK => ?_ | refine W.block ?_ | ((first | refine wR ?_ | refine wD ?_ | refine W.skip ?_ | refine W.exit ?_ | refine W.ret (Post.ret ?_) | refine aP ?_ | refine aF ?_); simp only [go_sem, reduceCtorEq, g0, g1, List.length_map]) | refine wT ?_ | refine wF ?_ | refine wC (fun h => ?_) (fun h => ?_) | refine iK ?_ | refine aI2 ?_ | (refine hK _ ?_; clear hK K) | clear hK K)
  clear s1 s2 s3 s4
  refine W.loopF (T := fun i : Nat => { t := [(2, .c (.ptr 0 0)), (3, .c (.ptr 1 0)), (5, ft (.int .i64 (i : Nat)))], h := [(0, .box 28 (trB a)), (1, .box 28 (trB b))], nx := 2, ex := [], nt := 98 })
    (Inv := fun i => i ≤ a.nds.length ∧ ∀ j, j < i → a.nds[j]? = b.nds[j]?) (μ := fun i => a.nds.length - i) (x0 := 0) ?_ ⟨Nat.zero_le _, fun j h => by omega⟩ ?_
  · refine Fits.fit [(0, 0), (1, 1)] [2, 3, 5] 2 rfl rfl ?_
    simp only [go_sem]
    exact Fits.rfl
  rintro i ⟨hi, hlo⟩ KL hKL
  refine W.lenX 0 1 rfl rfl tE35 fun _ hnb => ?_
  rw [List.length_map] at hnb
  by_cases hlt : i < a.nds.length
  · obtain ⟨x, hx, _, _⟩ := drop_at hlt
    obtain ⟨y, hy, _, _⟩ := drop_at (show i < b.nds.length by omega)
    have e1 : decide ((i : Int) < a.nds.length) = true := by simp; omega
    have e2 : decide (i < a.nds.length) = true := by simp; omega
    have e3 : decide (i < b.nds.length) = true := by simp; omega
    have hw := w64s i (by omega)
    have c1 := same_c x.ch y.ch
    by_cases hxy : x = y
    · subst hxy
      have k1 : (x.id != x.id) = false := by simp
      have k2 : (x.pa != x.pa) = false := by simp
      have k3 : (x.dep != x.dep) = false := by simp
      rw [decide_eq_true rfl] at c1
      repeat' (first | refine W.seq fun K hK => ?_ | refine W.block ?_ | ((first | refine wR ?_ | refine wD ?_ | refine W.skip ?_ | refine W.exit ?_ | refine W.ret (Post.ret ?_) | refine aP ?_ | refine aF ?_); simp only [go_sem, reduceCtorEq, List.getElem?_map, hx, hy, ndA, e1, e2, e3, k1, k2, k3, hw, List.length_map]) | refine wT ?_ | refine wF ?_ | refine wC (fun h => ?_) (fun h => ?_) | refine iK ?_ | refine aI2 ?_ | (refine hK _ ?_; clear hK K) | clear hK K)
      refine hKL.to (i + 1) ⟨by omega, fun j hj => ?_⟩ (by omega) ?_
      · by_cases e : j = i
        · subst e; rw [hx, hy]
        · exact hlo j (by omega)
      · refine Fits.fit [(0, 0), (1, 1)] [2, 3, 5] 2 rfl rfl ?_
        simp only [go_sem]
        exact Fits.rfl
    · have hne : decide (a.nds = b.nds) = false := by
        rw [decide_eq_false_iff_not]
        intro e
        rw [e, hy] at hx
        cases hx
        exact hxy rfl
      clear hKL
      cases q1 : (x.id != y.id) with
      | true =>
        clear c1
        repeat' (first | refine W.seq fun K hK => ?_ | refine W.block ?_ | ((first | refine wR ?_ | refine wD ?_ | refine W.skip ?_ | refine W.exit ?_ | refine W.ret (Post.ret ?_) | refine aP ?_ | refine aF ?_); simp only [go_sem, reduceCtorEq, List.getElem?_map, hx, hy, ndA, e1, e2, e3, q1, hne, List.length_map]) | refine wT ?_ | refine wF ?_ | refine wC (fun h => ?_) (fun h => ?_) | refine iK ?_ | refine aI2 ?_ | (refine hK _ ?_; clear hK K) | clear hK K)
      | false =>
      cases q2 : (x.pa != y.pa) with
      | true =>
        clear c1
        repeat' (first | refine W.seq fun K hK => ?_ | refine W.block ?_ | ((first | refine wR ?_ | refine wD ?_ | refine W.skip ?_ | refine W.exit ?_ | refine W.ret (Post.ret ?_) | refine aP ?_ | refine aF ?_); simp only [go_sem, reduceCtorEq, List.getElem?_map, hx, hy, ndA, e1, e2, e3, q1, q2, hne, List.length_map]) | refine wT ?_ | refine wF ?_ | refine wC (fun h => ?_) (fun h => ?_) | refine iK ?_ | refine aI2 ?_ | (refine hK _ ?_; clear hK K) | clear hK K)
      | false =>
      cases q3 : (x.dep != y.dep) with
      | true =>
        clear c1
        repeat' (first | refine W.seq fun K hK => ?_ | refine W.block ?_ | ((first | refine wR ?_ | refine wD ?_ | refine W.skip ?_ | refine W.exit ?_ | refine W.ret (Post.ret ?_) | refine aP ?_ | refine aF ?_); simp only [go_sem, reduceCtorEq, List.getElem?_map, hx, hy, ndA, e1, e2, e3, q1, q2, q3, hne, List.length_map]) | refine wT ?_ | refine wF ?_ | refine wC (fun h => ?_) (fun h => ?_) | refine iK ?_ | refine aI2 ?_ | (refine hK _ ?_; clear hK K) | clear hK K)
      | false =>
      have hc : decide (x.ch = y.ch) = false := by
        rw [decide_eq_false_iff_not]
        intro e
        simp at q1 q2 q3
        apply hxy
        cases x; cases y
        simp_all
      rw [hc] at c1
      repeat' (first | refine W.seq fun K hK => ?_ | refine W.block ?_ | ((first | refine wR ?_ | refine wD ?_ | refine W.skip ?_ | refine W.exit ?_ | refine W.ret (Post.ret ?_) | refine aP ?_ | refine aF ?_); simp only [go_sem, reduceCtorEq, List.getElem?_map, hx, hy, ndA, e1, e2, e3, q1, q2, q3, hne, List.length_map]) | refine wT ?_ | refine wF ?_ | refine wC (fun h => ?_) (fun h => ?_) | refine iK ?_ | refine aI2 ?_ | (refine hK _ ?_; clear hK K) | clear hK K)
  · obtain rfl : i = a.nds.length := by omega
    have e1 : decide ((a.nds.length : Int) < a.nds.length) = false := by simp
    have heq : decide (a.nds = b.nds) = true := by
      rw [decide_eq_true_eq]
      refine List.ext_getElem? fun j => ?_
      by_cases e : j < a.nds.length
      · exact hlo j e
      · rw [List.getElem?_eq_none (by omega), List.getElem?_eq_none (by omega)]
    clear hKL
    repeat' (first | refine W.seq fun K hK => ?_ | refine W.block ?_ | ((first | refine wR ?_ | refine wD ?_ | refine W.skip ?_ | refine W.exit ?_ | refine W.ret (Post.ret ?_) | refine aP ?_ | refine aF ?_); simp only [go_sem, reduceCtorEq, e1, heq, List.length_map]) | refine wT ?_ | refine wF ?_ | refine wC (fun h => ?_) (fun h => ?_) | refine iK ?_ | refine aI2 ?_ | (refine hK _ ?_; clear hK K) | clear hK K)
end Go.Proofs.YtigenjeealkdlaaGreat
namespace Go.Proofs.YtigenjeealkdlaaGreat
open Go.RowKit Go.Exe
attribute [local irreducible] W AX Run RunD AStep AOp AOpX AStB AStH AStG Fits PCall GCall PostG Post Stop
end Go.Proofs.YtigenjeealkdlaaGreat
namespace Go.Proofs.YtigenjeealkdlaaGreat
open Go.RowKit Go.Exe
/-! ### assembly.Equal -/
attribute [local irreducible] W AX Run RunD AStep AOp AOpX AStB AStH AStG Fits PCall GCall PostG Post Stop
end Go.Proofs.YtigenjeealkdlaaGreat
namespace Go.Proofs.YtigenjeealkdlaaGreat
open Go.RowKit Go.Exe
/-! ### what an assembler holds -/
theorem orA {a b : Prop} : a ∨ b ↔ a ∨ a ∨ b := ⟨fun h => h.elim .inl (fun h => .inr (.inr h)), fun h => h.elim .inl id⟩
theorem recs_putK (m : RM) (s : Spn) (t : Int) : recs (putK m s) t = recs m t ++ if s.tr = t then [s] else [] := by
  unfold recs
  rw [getK_put]
  split <;> simp
theorem recs_kmN (l : List Spn) (t : Int) : recs (kmN l l.length) t = trF l t := by
  have key : ∀ (l : List Spn) (m : RM), recs (l.foldl putK m) t = recs m t ++ trF l t := by
    intro l
    induction l with
    | nil => intro m; simp [trF]
    | cons s r ih =>
      intro m
      rw [List.foldl_cons, ih, recs_putK, List.append_assoc]
      congr 1
      unfold trF
      rw [List.filter_cons]
      by_cases e : s.tr = t
      · simp [e]
      · simp [e]
  unfold kmN
  rw [List.take_length, key]
  rfl
theorem trF_set (l : List Spn) (t : Int) : trF (setS l) t = setS (trF l t) := by
  refine lt_uni ?_ (setS_lt _) fun s => ?_
  · exact (setS_lt l).sublist List.filter_sublist
  · rw [mem_trF, mem_setS, mem_setS, mem_trF]
theorem recs_more (l : List Spn) (t : Int) : recs (moreR l) t = setS (trF l t) := by
  unfold moreR
  rw [recs_kmN, trF_set]
theorem putK_key (m : RM) (s : Spn) (t : Int) : t ∈ (putK m s).map (·.1) ↔ t = s.tr ∨ t ∈ m.map (·.1) := by
  induction m with
  | nil => simp [putK]
  | cons y r ih =>
    unfold putK
    by_cases e : y.1 = s.tr
    · rw [if_pos e]; simp only [List.map_cons, List.mem_cons, e]; exact orA
    · rw [if_neg e]; simp only [List.map_cons, List.mem_cons, ih]; exact or_left_comm
theorem more_key (l : List Spn) (t : Int) : t ∈ (moreR l).map (·.1) ↔ ∃ s ∈ l, s.tr = t := by
  have key : ∀ (l : List Spn) (m : RM), t ∈ (l.foldl putK m).map (·.1) ↔ t ∈ m.map (·.1) ∨ ∃ s ∈ l, s.tr = t := by
    intro l
    induction l with
    | nil => intro m; simp
    | cons s r ih =>
      intro m
      rw [List.foldl_cons, ih, putK_key]
      simp only [List.mem_cons, exists_eq_or_imp]
      constructor
      · rintro ((h | h) | h)
        · exact .inr (.inl h.symm)
        · exact .inl h
        · exact .inr (.inr h)
      · rintro (h | h | h)
        · exact .inl (.inr h)
        · exact .inl (.inl h.symm)
        · exact .inr h
  unfold moreR kmN
  rw [List.take_length, key]
  simp only [List.map_nil, List.not_mem_nil, false_or]
  exact ⟨fun ⟨s, hs, e⟩ => ⟨s, mem_setS.1 hs, e⟩, fun ⟨s, hs, e⟩ => ⟨s, mem_setS.2 hs, e⟩⟩
theorem getK_putR (m : RM) (k : Int) (l : List Spn) (t : Int) : getK (putR m k l) t = if k = t then some l else getK m t := by
  induction m with
  | nil => simp [putR, getK]
  | cons y r ih =>
    unfold putR
    by_cases e : y.1 = k
    · rw [if_pos e]
      simp only [getK]
      by_cases e2 : y.1 = t
      · rw [if_pos e2, if_pos (e ▸ e2)]
      · rw [if_neg e2, if_neg (fun h => e2 (e.trans h)), if_neg e2]
    · rw [if_neg e]
      simp only [getK, ih]
      by_cases e2 : y.1 = t
      · rw [if_pos e2, if_neg (fun h => e (e2.trans h.symm)), if_pos e2]
      · rw [if_neg e2, if_neg e2]
theorem recs_putR (m : RM) (k : Int) (l : List Spn) (t : Int) : recs (putR m k l) t = if k = t then l else recs m t := by
  unfold recs
  rw [getK_putR]
  split <;> rfl
theorem putR_key (m : RM) (k : Int) (l : List Spn) (t : Int) : t ∈ (putR m k l).map (·.1) ↔ t = k ∨ t ∈ m.map (·.1) := by
  induction m with
  | nil => simp [putR]
  | cons y r ih =>
    unfold putR
    by_cases e : y.1 = k
    · rw [if_pos e]; simp only [List.map_cons, List.mem_cons, e]; exact orA
    · rw [if_neg e]; simp only [List.map_cons, List.mem_cons, ih]; exact or_left_comm
theorem nowR_eq {l : List Spn} {m n : RM} {t : Int} (h : recs m t = recs n t) : nowR l m t = nowR l n t := by unfold nowR; rw [h]
theorem chgR_eq {l : List Spn} {m n : RM} {t : Int} (h : recs m t = recs n t) : chgR l m t = chgR l n t := by unfold chgR; rw [nowR_eq h, h]
theorem addS_fold (l : List Spn) (m0 : RM) : ∀ (ks : List Int) (m : RM) (out : List Int), ks.Nodup → (∀ t ∈ ks, recs m t = recs m0 t) →
    (∀ t, recs (ks.foldl (addS l) (m, out)).1 t = if t ∈ ks then nowR l m0 t else recs m t) ∧ (∀ t, t ∈ (ks.foldl (addS l) (m, out)).1.map (·.1) ↔ t ∈ ks ∨ t ∈ m.map (·.1)) ∧
    ((m.map (·.1)).Nodup → ((ks.foldl (addS l) (m, out)).1.map (·.1)).Nodup) ∧ (ks.foldl (addS l) (m, out)).2 = out ++ ks.filter (chgR l m0)
  | [], m, out, _, _ => ⟨fun t => by simp, fun t => by simp, fun h => h, by simp⟩
  | k :: r, m, out, hn, he => by
    obtain ⟨hk, hr⟩ := List.nodup_cons.1 hn
    have e0 := he k (by simp)
    have hx : addS l (m, out) k = (putR m k (nowR l m0 k), if chgR l m0 k then out ++ [k] else out) := by
      unfold addS
      rw [nowR_eq e0, chgR_eq e0]
    obtain ⟨h1, h2, h3, h4⟩ := addS_fold l m0 r (putR m k (nowR l m0 k)) (if chgR l m0 k then out ++ [k] else out) hr (fun t ht => by
      rw [recs_putR, if_neg (fun e : k = t => hk (by rw [e]; exact ht))]
      exact he t (by simp [ht]))
    rw [List.foldl_cons, hx]
    refine ⟨fun t => ?_, fun t => ?_, fun h => h3 (putR_keys h), ?_⟩
    · rw [h1, recs_putR]
      by_cases a : t ∈ r
      · rw [if_pos a, if_pos (by simp [a])]
      · rw [if_neg a]
        by_cases b : k = t
        · rw [if_pos b, if_pos (by simp [b]), b]
        · rw [if_neg b, if_neg (by simp only [List.mem_cons, not_or]; exact ⟨fun e => b e.symm, a⟩)]
    · rw [h2, putR_key]
      simp only [List.mem_cons]
      rw [or_left_comm, or_assoc]
    · rw [h4, List.filter_cons]
      cases chgR l m0 k <;> simp
/-- The assembler holds the records of a list. -/
structure Hld (m : RM) (L : List Spn) : Prop where
  keys : (m.map (·.1)).Nodup
  row : ∀ t, recs m t = setS (trF L t)
  mem : ∀ t, t ∈ m.map (·.1) ↔ ∃ s ∈ L, s.tr = t
theorem setS_nil : setS [] = [] := List.eq_nil_iff_forall_not_mem.2 fun s h => by have := mem_setS.1 h; cases this
theorem hld_nil : Hld [] [] := ⟨List.Pairwise.nil, fun t => by rw [show trF [] t = [] from rfl, setS_nil]; rfl, fun t => by simp⟩
theorem trF_app (a b : List Spn) (t : Int) : trF (a ++ b) t = trF a t ++ trF b t := by unfold trF; rw [List.filter_append]
theorem nowR_is {m : RM} {L : List Spn} (h : Hld m L) (l : List Spn) (t : Int) : nowR l m t = setS (trF (L ++ l) t) := by
  unfold nowR
  rw [h.row, recs_more, trF_app]
  refine setS_eq fun s => ?_
  simp only [List.mem_append, mem_setS]
theorem winS_set (l : List Spn) : winS (setS l) = winS l := by unfold winS; rw [setS_set]
theorem more_nodup (l : List Spn) : ((moreR l).map (·.1)).Nodup := kmN_keys _ _
theorem addF_hld {m : RM} {L : List Spn} (h : Hld m L) (l : List Spn) : Hld (addF m l).1 (L ++ l) := by
  have hn : (srtI ((moreR l).map (·.1))).Nodup := (List.mergeSort_perm _ _).nodup_iff.2 (more_nodup l)
  obtain ⟨h1, h2, h3, h4⟩ := addS_fold l m (srtI ((moreR l).map (·.1))) m [] hn (fun t _ => rfl)
  refine ⟨h3 h.keys, fun t => ?_, fun t => ?_⟩
  · unfold addF
    rw [h1]
    by_cases e : t ∈ srtI ((moreR l).map (·.1))
    · rw [if_pos e, nowR_is h]
    · rw [if_neg e, h.row]
      rw [srtI_mem, more_key] at e
      have : trF l t = [] := List.eq_nil_iff_forall_not_mem.2 fun s hs => e ⟨s, (mem_trF.1 hs).1, (mem_trF.1 hs).2⟩
      rw [trF_app, this, List.append_nil]
  · unfold addF
    rw [h2, srtI_mem, more_key, h.mem]
    simp only [List.mem_append]
    constructor
    · rintro (⟨s, hs, e⟩ | ⟨s, hs, e⟩)
      · exact ⟨s, .inr hs, e⟩
      · exact ⟨s, .inl hs, e⟩
    · rintro ⟨s, hs | hs, e⟩
      · exact .inr ⟨s, hs, e⟩
      · exact .inl ⟨s, hs, e⟩
theorem hld_win {m : RM} {L : List Spn} (h : Hld m L) (t : Int) : winS (recs m t) = ofS L t := by
  rw [h.row, winS_set]
  rfl
end Go.Proofs.YtigenjeealkdlaaGreat
namespace Go.Proofs.YtigenjeealkdlaaGreat
open Go.RowKit Go.Exe
theorem famB (l : List Fm) (B : Nat) (h : B ≤ 1000000) : (B + ((famL l).length + 1) * (famL l).length) * 168 ≤ 140737488355328 := by
  have h1 := famL_len l
  have h2 : ((famL l).length + 1) * (famL l).length ≤ 13 * 12 := Nat.mul_le_mul (by omega) h1
  omega
attribute [local irreducible] W AX Run RunD AStep AOp AOpX AStB AStH AStG Fits PCall GCall PostG Post Stop
end Go.Proofs.YtigenjeealkdlaaGreat
namespace Go.Proofs.YtigenjeealkdlaaGreat
open Go.RowKit Go.Exe
/-! ### the traces of an assembler -/
attribute [local irreducible] W AX Run RunD AStep AOp AOpX AStB AStH AStG Fits PCall GCall PostG Post Stop
theorem traces_p (c85 : SortI Tryz.prog 85) (m : RM) (hlen : m.length * 8 ≤ 140737488355328) : PCall Tryz.prog 71 [.c (.im (.pt [.mp 3 (rcEA m)]))] (intsT (srtI (m.map (·.1)))) := by
  have c66 := keysR_c m
  have c52 := sortedR_c c85 m _ rfl (by rw [List.length_map]; exact hlen)
  refine PCall.intro (nt := 11) (rs := [.tmp 2]) Tryz.func71 rfl ⟨by kernel_rfl, by kernel_rfl, by kernel_rfl⟩ (by simp) ?_
  rintro ⟨P, w0, ok0, may, np, pblk⟩ rfl rfl
  refine W.fits (s' := { t := [(0, .c (.ip [.mp 3 (rcEA m)]))], h := [], nx := 0, ex := [], nt := 11 }) (Fits.ipT 0 rfl (Fits.fit [] [0] 0 rfl rfl Fits.rfl)) ?_
  repeat' (first | refine W.seq fun K hK => ?_ | refine W.block ?_ | ((first | refine wR ?_ | refine wD ?_ | refine W.skip ?_ | refine W.exit ?_ | refine W.ret (Post.ret ?_) | refine aP ?_ | refine aF ?_ | refine aL ?_ | refine aU ?_ | refine aM ?_ | refine aN ?_ | refine aR ?_); simp only [go_sem, reduceCtorEq]) | refine wT ?_ | refine wF ?_ | refine wC (fun h => ?_) (fun h => ?_) | refine iK ?_ | refine aI2 ?_ | (refine hK _ ?_; clear hK K) | clear hK K)
  refine AX.gcall [] rfl rfl (c52) (by simp only [go_sem, reduceCtorEq]) (by simp only [go_sem, reduceCtorEq]) rfl rfl (by simp only [go_sem, Obj.owns]) rfl (by simp only [go_sem, Obj.owns]) rfl rfl ?_
  simp only [go_sem, reduceCtorEq]
  repeat' (first | refine W.seq fun K hK => ?_ | refine W.block ?_ | ((first | refine wR ?_ | refine wD ?_ | refine W.skip ?_ | refine W.exit ?_ | refine W.ret (Post.ret ?_) | refine aP ?_ | refine aF ?_ | refine aL ?_ | refine aU ?_ | refine aM ?_ | refine aN ?_ | refine aR ?_); simp only [go_sem, reduceCtorEq]) | refine wT ?_ | refine wF ?_ | refine wC (fun h => ?_) (fun h => ?_) | refine iK ?_ | refine aI2 ?_ | (refine hK _ ?_; clear hK K) | clear hK K)
theorem traces_c (c85 : SortI Tryz.prog 85) (m : RM) (hlen : m.length * 8 ≤ 140737488355328) : GCall Tryz.prog 71 2 (St.g [.c (.ptr 0 0)] [(0, .box 115 [.mp 1]), (1, .map 3 (rcE m))] 2) (St.r (intsT (srtI (m.map (·.1)))) [(0, .box 115 [.mp 1]), (1, .map 3 (rcE m))] 2) := by
  have hf : froE (rcEA m) = rcE m := by rw [rcEA_kEA, froE_kE]; rfl
  have hc : closeE (froE (rcEA m)) = some (rcEA m) := by
    rw [hf]
    exact closeE_map _ _ (fun x => ⟨rfl, rfl, rfl⟩) m
  have h := GCall.borrow (t := 115) hc (traces_p c85 m hlen)
  rwa [hf] at h
end Go.Proofs.YtigenjeealkdlaaGreat
namespace Go.Proofs.YtigenjeealkdlaaGreat
open Go.RowKit Go.Exe
/-! ### what an assembler tells -/
theorem postF {P : Program} {f np : Nat} {s0 s1 s1' : St} (h : GCall P f np s0 s1) (hf : ∀ C : Ctx, C.P = P → C.np = np → Fits C s1 s1') : GCall P f np s0 s1' :=
  ⟨h.1, fun C hC hnp vs w L hs => (h.2 C hC hnp vs w L hs).mono fun e w' ⟨v, L', h1, h2⟩ => by
    obtain ⟨L2, h3⟩ := hf C hC hnp _ _ ⟨L', h2⟩
    exact ⟨v, L2, h1, h3⟩⟩
abbrev asmH (m : RM) : List (Nat × Exe.Obj) := [(0, .box 115 [.mp 1]), (1, .map 3 (rcE m))]
def recsA (m : RM) (n : Nat) : List Spn := ((srtI (m.map (·.1))).take n).flatMap (recs m)
def recsL (m : RM) : List Spn := (srtI (m.map (·.1))).flatMap (recs m)
theorem recsA_le (m : RM) (n : Nat) : (recsA m n).length ≤ (recsL m).length := by
  unfold recsA recsL
  have h := List.take_append_drop n (srtI (m.map (·.1)))
  rw [show (srtI (m.map (·.1))).flatMap (recs m) = ((srtI (m.map (·.1))).take n).flatMap (recs m) ++ ((srtI (m.map (·.1))).drop n).flatMap (recs m) by rw [← List.flatMap_append, h], List.length_append]
  omega
theorem recsA_step {m : RM} {i : Nat} {k : Int} (h : (srtI (m.map (·.1)))[i]? = some k) : recsA m (i + 1) = recsA m i ++ recs m k := by
  unfold recsA
  simp [List.take_add_one, h, List.flatMap_append]
theorem getK_key {m : RM} {k : Int} (h : k ∈ m.map (·.1)) : getK m k = some (recs m k) := by
  unfold recs
  induction m with
  | nil => cases h
  | cons y r ih =>
    unfold getK
    by_cases e : y.1 = k
    · rw [if_pos e]; rfl
    · rw [if_neg e]
      simp only [List.map_cons, List.mem_cons] at h
      exact ih (h.resolve_left fun e2 => e e2.symm)
theorem srtI_len (l : List Int) : (srtI l).length = l.length := (List.mergeSort_perm l _).length_eq
attribute [local irreducible] W AX Run RunD AStep AOp AOpX AStB AStH AStG Fits PCall GCall PostG Post Stop
theorem records_c (c144 : SortC Tryz.prog 144 14) (c85 : SortI Tryz.prog 85) (m : RM) (hlen : m.length * 8 ≤ 1000000000) (hI : ∀ k ∈ m.map (·.1), I64 k) (hB : (recsL m).length ≤ 1000000000) :
    GCall Tryz.prog 41 2 (St.g [.c (.ptr 0 0)] (asmH m) 2) (St.r (spsT (setS (recsL m))) (asmH m) 2) := by
  have c71 := traces_c c85 m (by omega)
  have c65 := set65_c c144 (recsL m)
  have hkl := srtI_len (m.map (·.1))
  rw [List.length_map] at hkl
  have hkm : ∀ k ∈ srtI (m.map (·.1)), k ∈ m.map (·.1) := fun k hk => srtI_mem.1 hk
  have hst : ∀ i k, (srtI (m.map (·.1)))[i]? = some k → recsA m (i + 1) = recsA m i ++ recs m k := fun i k h => recsA_step h
  have hle := recsA_le m
  have hall : recsA m (srtI (m.map (·.1))).length = recsL m := by unfold recsA recsL; rw [List.take_length]
  have h0 : recsA m 0 = [] := by unfold recsA; simp
  clear c144 c85
  generalize srtI (m.map (·.1)) = ks at *
  generalize recsL m = all at *
  unfold asmH
  refine GCall.introG (nt := 24) (rs := [.tmp 2]) Tryz.func41 rfl ⟨by kernel_rfl, by kernel_rfl, by kernel_rfl⟩ (by simp) ?_
  rintro ⟨P, w0, ok0, may, np, pblk⟩ rfl rfl
  simp only [go_sem]
  repeat' (first | refine W.seq fun K hK => ?_ | refine W.block ?_ | ((first | refine wR ?_ | refine wD ?_ | refine W.skip ?_ | refine W.exit ?_ | refine W.ret (Post.ret ?_) | refine aP ?_ | refine aF ?_ | refine aL ?_ | refine aU ?_ | refine aM ?_ | refine aN ?_ | refine aR ?_); simp only [go_sem, reduceCtorEq]) | refine wT ?_ | refine wF ?_ | refine wC (fun h => ?_) (fun h => ?_) | refine iK ?_ | refine aI2 ?_ | (refine hK _ ?_; clear hK K) | clear hK K)
  refine AX.gcall [0, 1] rfl rfl (c71) (by simp only [go_sem, reduceCtorEq, rnEs_rcE]) (by simp only [go_sem, reduceCtorEq, rnEs_rcE]) rfl rfl (by simp only [go_sem, Obj.owns]) rfl (by simp only [go_sem, Obj.owns]) rfl rfl ?_
  simp only [go_sem, reduceCtorEq, rnEs_rcE]
  clear c71
  repeat' (first | refine W.seq fun K hK => ?_ | refine W.block ?_ | ((first | refine wR ?_ | refine wD ?_ | refine W.skip ?_ | refine W.exit ?_ | refine W.ret (Post.ret ?_) | refine aP ?_ | refine aF ?_ | refine aL ?_ | refine aU (hnn := by simp only [go_sem, reduceCtorEq, List.length_map]) ?_ | refine aM ?_ | refine aN ?_ | refine aR ?_); simp only [go_sem, reduceCtorEq, List.length_map]) | refine wT ?_ | refine wF ?_ | refine wC (fun h => ?_) (fun h => ?_) | refine iK ?_ | refine aI2 ?_ | (refine hK _ ?_; clear hK K) | clear hK K)
  refine W.loopF (T := fun i : Nat => { t := [(0, .c (.ptr 0 0)), (3, .c (.ref 2)), (7, intsT ks), (8, ft (.int .i64 ks.length)), (9, ft (.int .i64 (i : Nat)))], h := [(0, .box 115 [.mp 1]), (1, .map 3 (rcE m)), (2, .row 88 (imR ((recsA m i).map spA)))], nx := 3, ex := [], nt := 24 })
    (Inv := fun i => i ≤ ks.length) (μ := fun i => ks.length - i) (x0 := 0) ?_ (Nat.zero_le _) ?_
  · refine Fits.adopt 3 900 88 rfl rfl rfl tE88 rfl ?_
    refine Fits.fit [(0, 0), (1, 1), (900, 2)] [0, 3, 7, 8, 9] 3 rfl rfl ?_
    simp only [go_sem, rnEs_rcE, h0]
    exact Fits.rfl
  rintro i hi KL hKL
  by_cases hlt : i < ks.length
  · obtain ⟨k, hx, hm, _⟩ := drop_at hlt
    have e1 : decide ((i : Int) < ks.length) = true := by simp; omega
    have e2 : decide (i < ks.length) = true := by simp; omega
    have hw := w64s i (by omega)
    have hko := koI (hI k (hkm k hm))
    have hget : mget (Value.int .i64 k) (rcE m) = some (false, [.im (.sl 88 ((recs m k).map spA))]) := by rw [rcE_get, getK_key (hkm k hm)]; rfl
    have h1 := hst i k hx
    have h2 := hle (i + 1)
    have h3 := hle i
    rw [h1, List.length_append] at h2
    have b1 : ((recsA m i).length + (recs m k).length) * 168 ≤ 140737488355328 := by omega
    have hrow : imR ((recsA m i).map spA) ++ imR ((recs m k).map spA) = imR ((recsA m (i + 1)).map spA) := by rw [h1]; simp [imR]
    repeat' (first | refine W.seq fun K hK => ?_ | refine W.block ?_ | ((first | refine wR ?_ | refine wD ?_ | refine W.skip ?_ | refine W.exit ?_ | refine W.ret (Post.ret ?_) | refine aP ?_ | refine aF ?_ | refine aL ?_ | refine aU (hnn := by simp only [go_sem, reduceCtorEq, List.getElem?_map, hx, iA, e1, e2, hw, hko, hget, b1, hrow, List.length_map, imR_len]) ?_ | refine aM ?_ | refine aN ?_ | refine aR ?_); simp only [go_sem, reduceCtorEq, List.getElem?_map, hx, iA, e1, e2, hw, hko, hget, b1, hrow, List.length_map, imR_len]) | refine wT ?_ | refine wF ?_ | refine wC (fun h => ?_) (fun h => ?_) | refine iK ?_ | refine aI2 ?_ | (refine hK _ ?_; clear hK K) | clear hK K)
    refine hKL.to (i + 1) (by omega) (by omega) ?_
    refine Fits.fit [(0, 0), (1, 1), (14, 2)] [0, 3, 7, 8, 9] 3 rfl rfl ?_
    simp only [go_sem, rnEs_rcE]
    exact Fits.rfl
  · obtain rfl : i = ks.length := by omega
    have e1 : decide ((ks.length : Int) < ks.length) = false := by simp
    clear hKL
    rw [hall]
    repeat' (first | refine W.seq fun K hK => ?_ | refine W.block ?_ | ((first | refine wR ?_ | refine wD ?_ | refine W.skip ?_ | refine W.exit ?_ | refine W.ret (Post.ret ?_) | refine aP ?_ | refine aF ?_ | refine aL ?_ | refine aU (hnn := by simp only [go_sem, reduceCtorEq, e1]) ?_ | refine aM ?_ | refine aN ?_ | refine aR ?_); simp only [go_sem, reduceCtorEq, e1]) | refine wT ?_ | refine wF ?_ | refine wC (fun h => ?_) (fun h => ?_) | refine iK ?_ | refine aI2 ?_ | (refine hK _ ?_; clear hK K) | clear hK K)
    refine W.ret (PostG.ret (Fits.fit [(0, 0), (1, 1)] [2] 2 rfl rfl Fits.rfl) rfl rfl ?_)
    simp only [St.r, go_sem, rnEs_rcE]
theorem tree44_c (c144 : SortC Tryz.prog 144 14) (c85 : SortI Tryz.prog 85) (g84 : GrowC Tryz.prog 84 3 1 8) (m : RM) (k : Int) (hk : I64 k) (hn : recs m k ≠ []) (hI : ∀ s ∈ ofS (recs m k) k, I64 s.id ∧ I64 s.pa) :
    GCall Tryz.prog 44 2 (St.g [.c (.ptr 0 0), ft (.int .i64 k)] (asmH m) 2) (St.r (.t [(true, (trA (treeOf k (ofS (recs m k) k))).map .im), (false, [fl (.int .i64 0)])]) (asmH m) 2) := by
  have hko := koI hk
  have c13 := build_c c144 c85 g84 (recs m k) k (nodup_sorted (ofS_srt _ _)) hI
  have hl : ((recs m k).length == 0) = false := by
    cases h : recs m k with
    | nil => exact absurd h hn
    | cons x r => rfl
  have hg : getK m k = some (recs m k) := by
    unfold recs at hn ⊢
    cases h : getK m k with
    | none => rw [h] at hn; exact absurd rfl hn
    | some o => rfl
  have hl2 : (((recs m k).length : Int) == 0) = false := by
    have : (recs m k).length ≠ 0 := by simpa using hl
    simp; intro e; exact this (by rw [e]; rfl)
  have hget : mget (Value.int .i64 k) (rcE m) = some (false, [.im (.sl 88 ((recs m k).map spA))]) := by rw [rcE_get, hg]; rfl
  generalize treeOf k (ofS (recs m k) k) = T at *
  clear c144 c85 g84 hn hI hl hg
  generalize recs m k = o at *
  simp only [trT, trA, List.map] at c13 ⊢
  refine postF (s1 := St.r (.t [(true, trB T), (false, [fl (.int .i64 0)])]) [(0, .box 115 [.mp 1]), (1, .map 3 (rcE m)), (2, .box 28 (trB T))] 3) ?_ ?_
  · unfold asmH
    refine GCall.introG (nt := 28) (rs := [.cell 4 28, .tmp 5]) Tryz.func44 rfl ⟨by kernel_rfl, by kernel_rfl, by kernel_rfl⟩ (by simp) ?_
    rintro ⟨P, w0, ok0, may, np, pblk⟩ rfl rfl
    simp only [go_sem]
    repeat' (first | refine W.seq fun K hK => ?_ | refine W.block ?_ | ((first | refine wR ?_ | refine wD ?_ | refine W.skip ?_ | refine W.exit ?_ | refine W.ret (Post.ret ?_) | refine aP ?_ | refine aF ?_ | refine aL ?_ | refine aU (hnn := by simp only [go_sem, reduceCtorEq, hget, hko, hl2, List.length_map]) ?_ | refine aM ?_ | refine aN ?_ | refine aR ?_); simp only [go_sem, reduceCtorEq, hget, hko, hl2, List.length_map]) | refine wT ?_ | refine wF ?_ | refine wC (fun h => ?_) (fun h => ?_) | refine iK ?_ | refine aI2 ?_ | (refine hK _ ?_; clear hK K) | clear hK K)
    refine W.ret (PostG.ret (Fits.fit [(0, 0), (1, 1), (2, 2)] [4, 5] 3 rfl rfl Fits.rfl) rfl rfl ?_)
    simp only [St.r, go_sem, rnEs_rcE]
    rfl
  · rintro ⟨P, w0, ok0, may, np, pblk⟩ rfl rfl
    refine Fits.fit [(0, 0), (1, 1)] [0] 2 rfl rfl ?_
    simp only [St.r, go_sem, rnEs_rcE]
    exact Fits.rfl
end Go.Proofs.YtigenjeealkdlaaGreat
namespace Go.Proofs.YtigenjeealkdlaaGreat
open Go.RowKit Go.Exe
def dtA (m : RM) (k : Int) : List AV := [.flat (.int .i64 k), .flat (.int .i64 1), .sl 88 ((winS (recs m k)).map spA)]
attribute [local irreducible] W AX Run RunD AStep AOp AOpX AStB AStH AStG Fits PCall GCall PostG Post Stop
theorem data_c (c144 : SortC Tryz.prog 144 14) (c85 : SortI Tryz.prog 85) (m : RM) (hlen : m.length * 8 ≤ 1000000000) (hI : ∀ k ∈ m.map (·.1), I64 k) :
    GCall Tryz.prog 37 2 (St.g [.c (.ptr 0 0)] (asmH m) 2) (St.r (.c (.ref 2)) (asmH m ++ [(2, .row 74 (imR ((srtI (m.map (·.1))).map (dtA m))))]) 3) := by
  have c71 := traces_c c85 m (by omega)
  have hkl := srtI_len (m.map (·.1))
  rw [List.length_map] at hkl
  have hkm : ∀ k ∈ srtI (m.map (·.1)), k ∈ m.map (·.1) := fun k hk => srtI_mem.1 hk
  clear c85
  generalize srtI (m.map (·.1)) = ks at *
  unfold asmH
  refine GCall.introG (nt := 23) (rs := [.tmp 2]) Tryz.func37 rfl ⟨by kernel_rfl, by kernel_rfl, by kernel_rfl⟩ (by simp) ?_
  rintro ⟨P, w0, ok0, may, np, pblk⟩ rfl rfl
  simp only [go_sem]
  repeat' (first | refine W.seq fun K hK => ?_ | refine W.block ?_ | ((first | refine wR ?_ | refine wD ?_ | refine W.skip ?_ | refine W.exit ?_ | refine W.ret (Post.ret ?_) | refine aP ?_ | refine aF ?_ | refine aL ?_ | refine aU ?_ | refine aM ?_ | refine aN ?_ | refine aR ?_); simp only [go_sem, reduceCtorEq]) | refine wT ?_ | refine wF ?_ | refine wC (fun h => ?_) (fun h => ?_) | refine iK ?_ | refine aI2 ?_ | (refine hK _ ?_; clear hK K) | clear hK K)
  refine AX.gcall [0, 1] rfl rfl (c71) (by simp only [go_sem, reduceCtorEq, rnEs_rcE]) (by simp only [go_sem, reduceCtorEq, rnEs_rcE]) rfl rfl (by simp only [go_sem, Obj.owns]) rfl (by simp only [go_sem, Obj.owns]) rfl rfl ?_
  simp only [go_sem, reduceCtorEq, rnEs_rcE]
  clear c71
  repeat' (first | refine W.seq fun K hK => ?_ | refine W.block ?_ | ((first | refine wR ?_ | refine wD ?_ | refine W.skip ?_ | refine W.exit ?_ | refine W.ret (Post.ret ?_) | refine aP ?_ | refine aF ?_ | refine aL ?_ | refine aU (hnn := by simp only [go_sem, reduceCtorEq, List.length_map]) ?_ | refine aM ?_ | refine aN ?_ | refine aR ?_); simp only [go_sem, reduceCtorEq, List.length_map]) | refine wT ?_ | refine wF ?_ | refine wC (fun h => ?_) (fun h => ?_) | refine iK ?_ | refine aI2 ?_ | (refine hK _ ?_; clear hK K) | clear hK K)
  refine W.loopF (T := fun i : Nat => { t := [(0, .c (.ptr 0 0)), (3, .c (.ref 2)), (7, intsT ks), (8, ft (.int .i64 ks.length)), (9, ft (.int .i64 (i : Nat)))], h := [(0, .box 115 [.mp 1]), (1, .map 3 (rcE m)), (2, .row 74 (imR ((ks.take i).map (dtA m))))], nx := 3, ex := [], nt := 23 })
    (Inv := fun i => i ≤ ks.length) (μ := fun i => ks.length - i) (x0 := 0) ?_ (Nat.zero_le _) ?_
  · refine Fits.adopt 3 900 74 rfl rfl rfl tE74 rfl ?_
    refine Fits.fit [(0, 0), (1, 1), (900, 2)] [0, 3, 7, 8, 9] 3 rfl rfl ?_
    simp only [go_sem, rnEs_rcE]
    exact Fits.rfl
  rintro i hi KL hKL
  by_cases hlt : i < ks.length
  · obtain ⟨k, hx, hm, _⟩ := drop_at hlt
    have e1 : decide ((i : Int) < ks.length) = true := by simp; omega
    have e2 : decide (i < ks.length) = true := by simp; omega
    have hw := w64s i (by omega)
    have c45 := spans_c c144 m k (hI k (hkm k hm))
    have hrow : imR ((ks.take (i + 1)).map (dtA m)) = imR ((ks.take i).map (dtA m)) ++ [[.im (.flat (.int .i64 k)), .im (.flat (.int .i64 1)), .im (.sl 88 ((winS (recs m k)).map spA))]] := by
      rw [List.take_add_one, hx]; simp [imR, imL, dtA]
    have hil : (ks.take i).length = i := by rw [List.length_take]; omega
    have b1 : (i + 1) * 40 ≤ 140737488355328 := by omega
    clear c144
    repeat' (first | refine W.seq fun K hK => ?_ | refine W.block ?_ | ((first | refine wR ?_ | refine wD ?_ | refine W.skip ?_ | refine W.exit ?_ | refine W.ret (Post.ret ?_) | refine aP ?_ | refine aF ?_ | refine aL ?_ | refine aU (hnn := by simp only [go_sem, reduceCtorEq, List.getElem?_map, hx, iA, e1, e2, hw, List.length_map, imR_len]) ?_ | refine aM ?_ | refine aN ?_ | refine aR ?_); simp only [go_sem, reduceCtorEq, List.getElem?_map, hx, iA, e1, e2, hw, List.length_map, imR_len]) | refine wT ?_ | refine wF ?_ | refine wC (fun h => ?_) (fun h => ?_) | refine iK ?_ | refine aI2 ?_ | (refine hK _ ?_; clear hK K) | clear hK K)
    refine AX.gcall [0, 1] rfl rfl (c45) (by simp only [go_sem, reduceCtorEq, rnEs_rcE]) (by simp only [go_sem, reduceCtorEq, rnEs_rcE]) rfl rfl (by simp only [go_sem, Obj.owns]) rfl (by simp only [go_sem, Obj.owns]) rfl rfl ?_
    simp only [go_sem, reduceCtorEq, rnEs_rcE]
    repeat' (first | refine W.seq fun K hK => ?_ | refine W.block ?_ | ((first | refine wR ?_ | refine wD ?_ | refine W.skip ?_ | refine W.exit ?_ | refine W.ret (Post.ret ?_) | refine aP ?_ | refine aF ?_ | refine aL ?_ | refine aU (hnn := by simp only [go_sem, reduceCtorEq, hw, b1, hil, List.length_map, imR_len]) ?_ | refine aM ?_ | refine aN ?_ | refine aR ?_); simp only [go_sem, reduceCtorEq, hw, b1, hil, List.length_map, imR_len]) | refine wT ?_ | refine wF ?_ | refine wC (fun h => ?_) (fun h => ?_) | refine iK ?_ | refine aI2 ?_ | (refine hK _ ?_; clear hK K) | clear hK K)
    refine hKL.to (i + 1) (by omega) (by omega) ?_
    refine Fits.fit [(0, 0), (1, 1), (14, 2)] [0, 3, 7, 8, 9] 3 rfl rfl ?_
    simp only [go_sem, rnEs_rcE, hrow]
    exact Fits.rfl
  · obtain rfl : i = ks.length := by omega
    have e1 : decide ((ks.length : Int) < ks.length) = false := by simp
    clear hKL c144
    rw [List.take_length]
    repeat' (first | refine W.seq fun K hK => ?_ | refine W.block ?_ | ((first | refine wR ?_ | refine wD ?_ | refine W.skip ?_ | refine W.exit ?_ | refine W.ret (Post.ret ?_) | refine aP ?_ | refine aF ?_ | refine aL ?_ | refine aU (hnn := by simp only [go_sem, reduceCtorEq, e1]) ?_ | refine aM ?_ | refine aN ?_ | refine aR ?_); simp only [go_sem, reduceCtorEq, e1]) | refine wT ?_ | refine wF ?_ | refine wC (fun h => ?_) (fun h => ?_) | refine iK ?_ | refine aI2 ?_ | (refine hK _ ?_; clear hK K) | clear hK K)
    refine W.ret (PostG.ret (Fits.fit [(0, 0), (1, 1), (2, 2)] [2] 3 rfl rfl Fits.rfl) rfl rfl ?_)
    simp only [St.r, go_sem, rnEs_rcE]
/-! ### the traces of a list of records -/
def trsK (l : List Spn) (n : Nat) : List Int := ((l.take n).map Spn.tr).foldl addK []
def trsF (l : List Spn) : List Int := srtI (trsK l l.length)
theorem trsK_le (l : List Spn) (n : Nat) : (trsK l n).length ≤ n := by
  have h1 : ∀ (l a : List Int), (l.foldl addK a).length ≤ l.length + a.length := by
    intro l
    induction l with
    | nil => intro a; simp
    | cons x r ih =>
      intro a
      have := ih (addK a x)
      have h2 : (addK a x).length ≤ a.length + 1 := by unfold addK; split <;> simp
      simp only [List.foldl_cons, List.length_cons]
      omega
  have := h1 ((l.take n).map Spn.tr) []
  rw [List.length_map, List.length_take, List.length_nil] at this
  unfold trsK
  omega
theorem trsF_mem {l : List Spn} {t : Int} : t ∈ trsF l ↔ ∃ s ∈ l, s.tr = t := by
  unfold trsF trsK
  rw [srtI_mem, List.take_length, (addKs _ [] List.nodup_nil).2]
  simp
theorem trsF_lt (l : List Spn) : (trsF l).Pairwise (· < ·) := srtI_lt (addKs _ [] List.nodup_nil).1
theorem traces75_c (c85 : SortI Tryz.prog 85) (l : List Spn) (hI : ∀ s ∈ l, I64 s.tr) (hlen : l.length ≤ 1000000000) : PCall Tryz.prog 75 [spsT l] (intsT (trsF l)) := by
  have hn := (addKs ((l.take l.length).map Spn.tr) [] List.nodup_nil).1
  have hkl := trsK_le l l.length
  have c53 := keys_c (trsK l l.length)
  have c52 := sorted_c c85 (trsK l l.length) (by omega)
  unfold trsF
  refine PCall.intro (nt := 20) (rs := [.tmp 2]) Tryz.func75 rfl ⟨by kernel_rfl, by kernel_rfl, by kernel_rfl⟩ (by simp) ?_
  rintro ⟨P, w0, ok0, may, np, pblk⟩ rfl rfl
  repeat' (first | refine W.seq fun K hK => ?_ | refine W.block ?_ | ((first | refine wR ?_ | refine wD ?_ | refine W.skip ?_ | refine W.exit ?_ | refine W.ret (Post.ret ?_) | refine aP ?_ | refine aF ?_ | refine aL ?_ | refine aU ?_ | refine aM ?_ | refine aN ?_ | refine aR ?_); simp only [go_sem, reduceCtorEq]) | refine wT ?_ | refine wF ?_ | refine wC (fun h => ?_) (fun h => ?_) | refine iK ?_ | refine aI2 ?_ | (refine hK _ ?_; clear hK K) | clear hK K)
  refine W.loopF (T := fun i : Nat => { t := [(3, .c (.mp 0)), (7, spsT l), (8, ft (.int .i64 l.length)), (9, ft (.int .i64 (i : Nat)))], h := [(0, .map 3 (msE (trsK l i)))], nx := 1, ex := [], nt := 20 })
    (Inv := fun i => i ≤ l.length) (μ := fun i => l.length - i) (x0 := 0) ?_ (Nat.zero_le _) ?_
  · refine Fits.fit [(1, 0)] [3, 7, 8, 9] 1 rfl rfl ?_
    simp only [go_sem]
    exact Fits.rfl
  rintro i hi KL hKL
  by_cases hlt : i < l.length
  · obtain ⟨s, hx, hm, _⟩ := drop_at hlt
    have e1 : decide ((i : Int) < l.length) = true := by simp; omega
    have e2 : decide (i < l.length) = true := by simp; omega
    have hw := w64s i (by omega)
    have hko := koI (hI s hm)
    have hput := msE_put (trsK l i) s.tr
    have hst : addK (trsK l i) s.tr = trsK l (i + 1) := by unfold trsK; rw [List.take_add_one, hx]; simp [List.foldl_append]
    rw [hst] at hput
    clear c53 c52
    rcases msE_mget (.int .i64 s.tr) (trsK l i) with hq | hq
    · repeat' (first | refine W.seq fun K hK => ?_ | refine W.block ?_ | ((first | refine wR ?_ | refine wD ?_ | refine W.skip ?_ | refine W.exit ?_ | refine W.ret (Post.ret ?_) | refine aP ?_ | refine aF ?_ | refine aL ?_ | refine aU (hnn := by simp only [go_sem, reduceCtorEq, List.getElem?_map, hx, spA, e1, e2, hw, hko, hq, hput, List.length_map]) ?_ | refine aM ?_ | refine aN ?_ | refine aR ?_); simp only [go_sem, reduceCtorEq, List.getElem?_map, hx, spA, e1, e2, hw, hko, hq, hput, List.length_map]) | refine wT ?_ | refine wF ?_ | refine wC (fun h => ?_) (fun h => ?_) | refine iK ?_ | refine aI2 ?_ | (refine hK _ ?_; clear hK K) | clear hK K)
      refine hKL.to (i + 1) (by omega) (by omega) ?_
      refine Fits.fit [(0, 0)] [3, 7, 8, 9] 1 rfl rfl ?_
      simp only [go_sem, rnEs_msE]
      exact Fits.rfl
    · repeat' (first | refine W.seq fun K hK => ?_ | refine W.block ?_ | ((first | refine wR ?_ | refine wD ?_ | refine W.skip ?_ | refine W.exit ?_ | refine W.ret (Post.ret ?_) | refine aP ?_ | refine aF ?_ | refine aL ?_ | refine aU (hnn := by simp only [go_sem, reduceCtorEq, List.getElem?_map, hx, spA, e1, e2, hw, hko, hq, hput, List.length_map]) ?_ | refine aM ?_ | refine aN ?_ | refine aR ?_); simp only [go_sem, reduceCtorEq, List.getElem?_map, hx, spA, e1, e2, hw, hko, hq, hput, List.length_map]) | refine wT ?_ | refine wF ?_ | refine wC (fun h => ?_) (fun h => ?_) | refine iK ?_ | refine aI2 ?_ | (refine hK _ ?_; clear hK K) | clear hK K)
      refine hKL.to (i + 1) (by omega) (by omega) ?_
      refine Fits.fit [(0, 0)] [3, 7, 8, 9] 1 rfl rfl ?_
      simp only [go_sem, rnEs_msE]
      exact Fits.rfl
  · obtain rfl : i = l.length := by omega
    have e1 : decide ((l.length : Int) < l.length) = false := by simp
    clear hKL
    repeat' (first | refine W.stop (id := 7) ?_ | refine W.seq fun K hK => ?_ | refine W.block ?_ | ((first | refine wR ?_ | refine wD ?_ | refine W.skip ?_ | refine W.exit ?_ | refine W.ret (Post.ret ?_) | refine aP ?_ | refine aF ?_ | refine aL ?_ | refine aU (hnn := by simp only [go_sem, reduceCtorEq, e1]) ?_ | refine aM ?_ | refine aN ?_ | refine aR ?_); simp only [go_sem, reduceCtorEq, e1]) | refine wT ?_ | refine wF ?_ | refine wC (fun h => ?_) (fun h => ?_) | refine iK ?_ | refine aI2 ?_ | (refine hK _ ?_; clear hK K) | clear hK K)
    refine Stop.out ?_
    refine W.fits (Fits.freezeM 0 rfl (msE_close _) Fits.rfl) ?_
    simp only [go_sem]
    repeat' (first | refine W.seq fun K hK => ?_ | refine W.block ?_ | ((first | refine wR ?_ | refine wD ?_ | refine W.skip ?_ | refine W.exit ?_ | refine W.ret (Post.ret ?_) | refine aP ?_ | refine aF ?_ | refine aL ?_ | refine aU ?_ | refine aM ?_ | refine aN ?_ | refine aR ?_); simp only [go_sem, reduceCtorEq]) | refine wT ?_ | refine wF ?_ | refine wC (fun h => ?_) (fun h => ?_) | refine iK ?_ | refine aI2 ?_ | (refine hK _ ?_; clear hK K) | clear hK K)
    refine AX.gcall [] rfl rfl (c52) (by simp only [go_sem, reduceCtorEq]) (by simp only [go_sem, reduceCtorEq]) rfl rfl (by simp only [go_sem, Obj.owns]) rfl (by simp only [go_sem, Obj.owns]) rfl rfl ?_
    simp only [go_sem, reduceCtorEq]
    repeat' (first | refine W.seq fun K hK => ?_ | refine W.block ?_ | ((first | refine wR ?_ | refine wD ?_ | refine W.skip ?_ | refine W.exit ?_ | refine W.ret (Post.ret ?_) | refine aP ?_ | refine aF ?_ | refine aL ?_ | refine aU ?_ | refine aM ?_ | refine aN ?_ | refine aR ?_); simp only [go_sem, reduceCtorEq]) | refine wT ?_ | refine wF ?_ | refine wC (fun h => ?_) (fun h => ?_) | refine iK ?_ | refine aI2 ?_ | (refine hK _ ?_; clear hK K) | clear hK K)
end Go.Proofs.YtigenjeealkdlaaGreat
namespace Go.Proofs.YtigenjeealkdlaaGreat
open Go.RowKit Go.Exe
/-! ### the document's forms: numbers -/
def lowU : Nat → Nat → List UInt8
  | 0, _ => []
  | k + 1, m => if m = 0 then [] else UInt8.ofNat (m % 256) :: lowU k (m / 256)
theorem lowU_len : ∀ k m, (lowU k m).length ≤ k
  | 0, m => Nat.le_refl _
  | k + 1, m => by
    unfold lowU
    split
    · simp
    · have := lowU_len k (m / 256)
      rw [List.length_cons]; omega
def numU (n : Int) : List UInt8 := UInt8.ofNat (if n < 0 then 128 - (lowU 8 n.natAbs).length else 128 + (lowU 8 n.natAbs).length) :: (lowU 8 n.natAbs).reverse.map fun b => if n < 0 then 255 - b else b
def numS (n : Int) : ByteArray := ⟨(numU n).toArray⟩
theorem numU_len (n : Int) : (numU n).length ≤ 9 := by
  have := lowU_len 8 n.natAbs
  unfold numU
  rw [List.length_cons, List.length_map, List.length_reverse]
  omega
theorem numS_size (n : Int) : (numS n).size ≤ 9 := by
  have := numU_len n
  show (numU n).toArray.size ≤ 9
  simpa using this
theorem u8n {x : Nat} (h : x < 256) : (((UInt8.ofNat x).toNat : Nat) : Int) = (x : Int) := by
  rw [UInt8.toNat_ofNat_of_lt' (by simpa [UInt8.size] using h)]
theorem u8sub (b : UInt8) : IntKind.u8.wrap (255 - (b.toNat : Int)) = (((255 - b : UInt8).toNat : Nat) : Int) := by
  have h := UInt8.toNat_lt b
  rw [IntKind.wrap_u8, UInt8.toNat_sub]
  have : (255 : UInt8).toNat = 255 := rfl
  rw [this]
  omega
theorem u64_pos {n : Int} (h1 : 0 ≤ n) (h2 : n < 9223372036854775808) : IntKind.u64.wrap n = ((n.natAbs : Nat) : Int) := by
  rw [IntKind.wrap_u64]; omega
attribute [local irreducible] W AX Run RunD AStep AOp AOpX AStB AStH AStG Fits PCall GCall PostG Post Stop
theorem mag_c (n : Int) (h : I64 n) : PCall Tryz.prog 109 [ft (.int .i64 n)] (ft (.int .u64 ((n.natAbs : Nat) : Int))) := by
  obtain ⟨h1, h2⟩ := h
  refine PCall.intro (nt := 12) (rs := [.tmp 2]) Tryz.func109 rfl ⟨by kernel_rfl, by kernel_rfl, by kernel_rfl⟩ (by simp) ?_
  rintro ⟨P, w0, ok0, may, np, pblk⟩ rfl rfl
  by_cases h : n < 0
  · have e1 : decide (n < 0) = true := by simp [h]
    have e2 : IntKind.i64.wrap (n + 1) = n + 1 := w64 (by omega) (by omega)
    have e3 : IntKind.i64.wrap (0 - (n + 1)) = 0 - (n + 1) := w64 (by omega) (by omega)
    have e4 : IntKind.u64.wrap (0 - (n + 1)) = 0 - (n + 1) := by rw [IntKind.wrap_u64]; omega
    have e5 : IntKind.u64.wrap (0 - (n + 1) + 1) = ((n.natAbs : Nat) : Int) := by rw [IntKind.wrap_u64]; omega
    repeat' (first | refine W.seq fun K hK => ?_ | refine W.block ?_ | ((first | refine wR ?_ | refine wD ?_ | refine W.skip ?_ | refine W.exit ?_ | refine W.ret (Post.ret ?_) | refine aP ?_ | refine aF ?_); simp only [go_sem, reduceCtorEq, e1, e2, e3, e4, e5]) | refine wT ?_ | refine wF ?_ | refine wC (fun h => ?_) (fun h => ?_) | refine iK ?_ | refine aI2 ?_ | (refine hK _ ?_; clear hK K) | clear hK K)
  · have e1 : decide (n < 0) = false := by simp [h]
    have e2 := u64_pos (n := n) (by omega) (by omega)
    repeat' (first | refine W.seq fun K hK => ?_ | refine W.block ?_ | ((first | refine wR ?_ | refine wD ?_ | refine W.skip ?_ | refine W.exit ?_ | refine W.ret (Post.ret ?_) | refine aP ?_ | refine aF ?_); simp only [go_sem, reduceCtorEq, e1, e2]) | refine wT ?_ | refine wF ?_ | refine wC (fun h => ?_) (fun h => ?_) | refine iK ?_ | refine aI2 ?_ | (refine hK _ ?_; clear hK K) | clear hK K)
theorem num76_c (n : Int) (h : I64 n) : PCall Tryz.prog 76 [ft (.int .i64 n)] (ft (.string (numS n))) := by
  have c109 := mag_c n h
  have hI := h
  obtain ⟨h1, h2⟩ := h
  generalize hm : n.natAbs = m at c109
  have hm64 : m < 256 ^ 8 := by omega
  have hlo := lowU_len 8 m
  refine PCall.intro (nt := 53) (rs := [.tmp 2]) Tryz.func76 rfl ⟨by kernel_rfl, by kernel_rfl, by kernel_rfl⟩ (by simp) ?_
  rintro ⟨P, w0, ok0, may, np, pblk⟩ rfl rfl
  repeat' (first | refine W.seq fun K hK => ?_ | refine W.block ?_ | ((first | refine wR ?_ | refine wD ?_ | refine W.skip ?_ | refine W.exit ?_ | refine W.ret (Post.ret ?_) | refine aP ?_ | refine aF ?_); simp only [go_sem, reduceCtorEq]) | refine wT ?_ | refine wF ?_ | refine wC (fun h => ?_) (fun h => ?_) | refine iK ?_ | refine aI2 ?_ | (refine hK _ ?_; clear hK K) | clear hK K)
  clear c109
  refine W.loopF (T := fun x : Nat × Nat × List UInt8 => { t := [(0, ft (.int .i64 n)), (3, .c (.ref 0)), (4, ft (.int .u64 ((x.2.1 : Nat) : Int)))], h := [(0, .row 5 (imR (bsA x.2.2)))], nx := 1, ex := [], nt := 53 })
    (Inv := fun x => x.2.2 ++ lowU x.1 x.2.1 = lowU 8 m ∧ x.2.1 < 256 ^ x.1 ∧ x.1 ≤ 8) (μ := fun x => x.1) (x0 := (8, m, [])) ?_ ⟨rfl, hm64, Nat.le_refl _⟩ ?_
  · refine Fits.adopt 3 900 5 rfl rfl rfl tE5 rfl ?_
    refine Fits.fit [(900, 0)] [0, 3, 4] 1 rfl rfl ?_
    simp only [go_sem]
    exact Fits.rfl
  rintro ⟨k, x, acc⟩ ⟨hacc, hx, hk8⟩ KL hKL
  dsimp only at hacc hx hk8 ⊢
  have hal : acc.length ≤ 8 := by have := congrArg List.length hacc; rw [List.length_append] at this; omega
  by_cases h0 : 0 < x
  · cases k with
    | zero => simp at hx; omega
    | succ k =>
      have e1 : decide ((x : Int) > 0) = true := by simp [h0]
      rw [lowU, if_neg (by omega)] at hacc
      have hx64 : x < 18446744073709551616 := by
        have := Nat.pow_le_pow_right (n := 256) (by decide) hk8
        omega
      have q1 : IntKind.u64.wrap (Int.tdiv (x : Int) 256) = ((x / 256 : Nat) : Int) := by
        rw [Int.tdiv_eq_ediv_of_nonneg (by omega), IntKind.wrap_u64]; omega
      have q2 : IntKind.u8.wrap (Int.tmod (x : Int) 256) = (((UInt8.ofNat (x % 256)).toNat : Nat) : Int) := by
        rw [u8n (by omega), Int.tmod_eq_emod_of_nonneg (by omega), IntKind.wrap_u8]; omega
      have hrow : imR (bsA acc) ++ [[Cell.im (AV.flat (Value.int .u8 (((UInt8.ofNat (x % 256)).toNat : Nat) : Int)))]] = imR (bsA (acc ++ [UInt8.ofNat (x % 256)])) := by simp [bsA, imR, imL]
      repeat' (first | refine W.seq fun K hK => ?_ | refine W.block ?_ | ((first | refine wR ?_ | refine wD ?_ | refine W.skip ?_ | refine W.exit ?_ | refine W.ret (Post.ret ?_) | refine aP ?_ | refine aF ?_); simp only [go_sem, reduceCtorEq, e1, q1, q2, imR_len, bsA_len, List.length_map]) | refine wT ?_ | refine wF ?_ | refine wC (fun h => ?_) (fun h => ?_) | refine iK ?_ | refine aI2 ?_ | (refine hK _ ?_; clear hK K) | clear hK K)
      refine hKL.to (k, x / 256, acc ++ [UInt8.ofNat (x % 256)]) ⟨by rw [List.append_assoc]; exact hacc, by dsimp only; rw [Nat.pow_succ] at hx; omega, by dsimp only; omega⟩ (Nat.lt_succ_self k) (Fits.fit [(8, 0)] [0, 3, 4] 1 rfl rfl ?_)
      simp only [go_sem, hrow]
      exact Fits.rfl
  · obtain rfl : x = 0 := by omega
    have e1 : decide (((0 : Nat) : Int) > 0) = false := by decide
    have hacc2 : acc = lowU 8 m := by
      rw [← hacc]
      cases k with
      | zero => simp [lowU]
      | succ k => simp [lowU]
    clear hKL hacc
    have hnum : numU n = UInt8.ofNat (if n < 0 then 128 - acc.length else 128 + acc.length) :: acc.reverse.map fun b => if n < 0 then 255 - b else b := by unfold numU; rw [hm, hacc2]
    have hres : numS n = ⟨(UInt8.ofNat (if n < 0 then 128 - acc.length else 128 + acc.length) :: acc.reverse.map fun b => if n < 0 then 255 - b else b).toArray⟩ := by unfold numS; rw [hnum]
    clear hnum hacc2 hlo hm hm64
    have wl : IntKind.i64.wrap ((acc.length : Int) - 1) = (acc.length : Int) - 1 := w64 (by omega) (by omega)
    by_cases hn : n < 0
    · have g1 : decide (n < 0) = true := by simp [hn]
      simp only [if_pos hn] at hres
      obtain ⟨hd, hhd⟩ : ∃ hd, hd = UInt8.ofNat (128 - acc.length) := ⟨_, rfl⟩
      have q3 : IntKind.u8.wrap (IntKind.i64.wrap (128 - (acc.length : Int))) = ((hd.toNat : Nat) : Int) := by
        rw [hhd, u8n (by omega), w64 (by omega) (by omega), IntKind.wrap_u8]; omega
      rw [← hhd] at hres
      clear hhd
      repeat' (first | refine W.seq fun K hK => ?_ | refine W.block ?_ | ((first | refine wR ?_ | refine wD ?_ | refine W.skip ?_ | refine W.exit ?_ | refine W.ret (Post.ret ?_) | refine aP ?_ | refine aF ?_); simp only [go_sem, reduceCtorEq, e1, g1, q3, wl, imR_len, bsA_len, List.length_map]) | refine wT ?_ | refine wF ?_ | refine wC (fun h => ?_) (fun h => ?_) | refine iK ?_ | refine aI2 ?_ | (refine hK _ ?_; clear hK K) | clear hK K)
      refine W.loopF (T := fun k : Nat => { t := [(0, ft (.int .i64 n)), (3, .c (.ref 0)), (6, .c (.ref 1)), (7, ft (.int .i64 ((k : Int) - 1)))], h := [(0, .row 5 (imR (bsA acc))), (1, .row 5 (imR (bsA (hd :: (acc.drop k).reverse.map fun b => 255 - b))))], nx := 2, ex := [], nt := 53 })
        (Inv := fun k => k ≤ acc.length) (μ := fun k => k) (x0 := acc.length) ?_ (Nat.le_refl _) ?_
      · refine Fits.fit [(0, 0), (15, 1)] [0, 3, 6, 7] 2 rfl rfl ?_
        simp only [go_sem, List.drop_length, List.reverse_nil, List.map_nil]
        exact Fits.rfl
      rintro k hk KL hKL
      cases k with
      | zero =>
        have g2 : decide ((((0 : Nat) : Int) - 1) ≥ 0) = false := by decide
        clear hKL
        rw [List.drop_zero]
        repeat' (first | refine W.seq fun K hK => ?_ | refine W.block ?_ | ((first | refine wR ?_ | refine wD ?_ | refine W.skip ?_ | refine W.exit ?_ | refine W.ret (Post.ret ?_) | refine aP ?_ | refine aF ?_); simp only [go_sem, reduceCtorEq, g2]) | refine wT ?_ | refine wF ?_ | refine wC (fun h => ?_) (fun h => ?_) | refine iK ?_ | refine aI2 ?_ | (refine hK _ ?_; clear hK K) | clear hK K)
        refine AX.bytesStr (hd :: acc.reverse.map fun b => 255 - b) rfl tL58 tU9 tE5 tU5 rfl rfl rfl ?_
        simp only [go_sem]
        repeat' (first | refine W.seq fun K hK => ?_ | refine W.block ?_ | ((first | refine wR ?_ | refine wD ?_ | refine W.skip ?_ | refine W.exit ?_ | refine W.ret (Post.ret ?_) | refine aP ?_ | refine aF ?_); simp only [go_sem, reduceCtorEq]) | refine wT ?_ | refine wF ?_ | refine wC (fun h => ?_) (fun h => ?_) | refine iK ?_ | refine aI2 ?_ | (refine hK _ ?_; clear hK K) | clear hK K)
        rw [hres]
      | succ k =>
        obtain ⟨b, hb, hbm, hbd⟩ := drop_at (show k < acc.length by omega)
        have e0 : (((k + 1 : Nat) : Int) - 1) = (k : Int) := by omega
        have g2 : decide ((k : Int) ≥ 0) = true := by simp
        have g3 : decide (k < acc.length) = true := by simp; omega
        have hw : IntKind.i64.wrap ((k : Int) - 1) = (k : Int) - 1 := w64 (by omega) (by omega)
        have hs := u8sub b
        have hbx : (bsA acc)[k]? = some [.flat (.int .u8 (b.toNat : Int))] := by unfold bsA; rw [List.getElem?_map, hb]; rfl
        have hrl : (acc.drop (k + 1)).length ≤ 8 := by rw [List.length_drop]; omega
        have hrow : imR (bsA (hd :: (acc.drop (k + 1)).reverse.map fun b => 255 - b)) ++ [[Cell.im (AV.flat (Value.int .u8 (((255 - b : UInt8).toNat : Nat) : Int)))]] = imR (bsA (hd :: (acc.drop k).reverse.map fun b => 255 - b)) := by rw [hbd]; simp [bsA, imR, imL]
        rw [e0]
        repeat' (first | refine W.seq fun K hK => ?_ | refine W.block ?_ | ((first | refine wR ?_ | refine wD ?_ | refine W.skip ?_ | refine W.exit ?_ | refine W.ret (Post.ret ?_) | refine aP ?_ | refine aF ?_); simp only [go_sem, reduceCtorEq, imR_get, hbx, imL, g1, g2, g3, hw, hs, imR_len, bsA_len, List.length_map, List.length_cons, List.length_reverse]) | refine wT ?_ | refine wF ?_ | refine wC (fun h => ?_) (fun h => ?_) | refine iK ?_ | refine aI2 ?_ | (refine hK _ ?_; clear hK K) | clear hK K)
        refine hKL.to k (by omega) (Nat.lt_succ_self k) (Fits.fit [(0, 0), (17, 1)] [0, 3, 6, 7] 2 rfl rfl ?_)
        simp only [go_sem, hrow]
        exact Fits.rfl
    · have g1 : decide (n < 0) = false := by simp [hn]
      simp only [if_neg hn] at hres
      obtain ⟨hd, hhd⟩ : ∃ hd, hd = UInt8.ofNat (128 + acc.length) := ⟨_, rfl⟩
      have q3 : IntKind.u8.wrap (IntKind.i64.wrap (128 + (acc.length : Int))) = ((hd.toNat : Nat) : Int) := by
        rw [hhd, u8n (by omega), w64 (by omega) (by omega), IntKind.wrap_u8]; omega
      rw [← hhd] at hres
      clear hhd
      repeat' (first | refine W.seq fun K hK => ?_ | refine W.block ?_ | ((first | refine wR ?_ | refine wD ?_ | refine W.skip ?_ | refine W.exit ?_ | refine W.ret (Post.ret ?_) | refine aP ?_ | refine aF ?_); simp only [go_sem, reduceCtorEq, e1, g1, q3, wl, imR_len, bsA_len, List.length_map]) | refine wT ?_ | refine wF ?_ | refine wC (fun h => ?_) (fun h => ?_) | refine iK ?_ | refine aI2 ?_ | (refine hK _ ?_; clear hK K) | clear hK K)
      refine W.loopF (T := fun k : Nat => { t := [(0, ft (.int .i64 n)), (3, .c (.ref 0)), (6, .c (.ref 1)), (7, ft (.int .i64 ((k : Int) - 1)))], h := [(0, .row 5 (imR (bsA acc))), (1, .row 5 (imR (bsA (hd :: (acc.drop k).reverse.map fun b => b))))], nx := 2, ex := [], nt := 53 })
        (Inv := fun k => k ≤ acc.length) (μ := fun k => k) (x0 := acc.length) ?_ (Nat.le_refl _) ?_
      · refine Fits.fit [(0, 0), (11, 1)] [0, 3, 6, 7] 2 rfl rfl ?_
        simp only [go_sem, List.drop_length, List.reverse_nil, List.map_nil]
        exact Fits.rfl
      rintro k hk KL hKL
      cases k with
      | zero =>
        have g2 : decide ((((0 : Nat) : Int) - 1) ≥ 0) = false := by decide
        clear hKL
        rw [List.drop_zero]
        repeat' (first | refine W.seq fun K hK => ?_ | refine W.block ?_ | ((first | refine wR ?_ | refine wD ?_ | refine W.skip ?_ | refine W.exit ?_ | refine W.ret (Post.ret ?_) | refine aP ?_ | refine aF ?_); simp only [go_sem, reduceCtorEq, g2]) | refine wT ?_ | refine wF ?_ | refine wC (fun h => ?_) (fun h => ?_) | refine iK ?_ | refine aI2 ?_ | (refine hK _ ?_; clear hK K) | clear hK K)
        refine AX.bytesStr (hd :: acc.reverse.map fun b => b) rfl tL58 tU9 tE5 tU5 rfl rfl rfl ?_
        simp only [go_sem]
        repeat' (first | refine W.seq fun K hK => ?_ | refine W.block ?_ | ((first | refine wR ?_ | refine wD ?_ | refine W.skip ?_ | refine W.exit ?_ | refine W.ret (Post.ret ?_) | refine aP ?_ | refine aF ?_); simp only [go_sem, reduceCtorEq]) | refine wT ?_ | refine wF ?_ | refine wC (fun h => ?_) (fun h => ?_) | refine iK ?_ | refine aI2 ?_ | (refine hK _ ?_; clear hK K) | clear hK K)
        rw [hres]
      | succ k =>
        obtain ⟨b, hb, hbm, hbd⟩ := drop_at (show k < acc.length by omega)
        have e0 : (((k + 1 : Nat) : Int) - 1) = (k : Int) := by omega
        have g2 : decide ((k : Int) ≥ 0) = true := by simp
        have g3 : decide (k < acc.length) = true := by simp; omega
        have hw : IntKind.i64.wrap ((k : Int) - 1) = (k : Int) - 1 := w64 (by omega) (by omega)
        have hbx : (bsA acc)[k]? = some [.flat (.int .u8 (b.toNat : Int))] := by unfold bsA; rw [List.getElem?_map, hb]; rfl
        have hrl : (acc.drop (k + 1)).length ≤ 8 := by rw [List.length_drop]; omega
        have hrow : imR (bsA (hd :: (acc.drop (k + 1)).reverse.map fun b => b)) ++ [[Cell.im (AV.flat (Value.int .u8 (((b : UInt8).toNat : Nat) : Int)))]] = imR (bsA (hd :: (acc.drop k).reverse.map fun b => b)) := by rw [hbd]; simp [bsA, imR, imL]
        rw [e0]
        repeat' (first | refine W.seq fun K hK => ?_ | refine W.block ?_ | ((first | refine wR ?_ | refine wD ?_ | refine W.skip ?_ | refine W.exit ?_ | refine W.ret (Post.ret ?_) | refine aP ?_ | refine aF ?_); simp only [go_sem, reduceCtorEq, imR_get, hbx, imL, g1, g2, g3, hw, imR_len, bsA_len, List.length_map, List.length_cons, List.length_reverse]) | refine wT ?_ | refine wF ?_ | refine wC (fun h => ?_) (fun h => ?_) | refine iK ?_ | refine aI2 ?_ | (refine hK _ ?_; clear hK K) | clear hK K)
        refine hKL.to k (by omega) (Nat.lt_succ_self k) (Fits.fit [(0, 0), (14, 1)] [0, 3, 6, 7] 2 rfl rfl ?_)
        simp only [go_sem, hrow]
        exact Fits.rfl
end Go.Proofs.YtigenjeealkdlaaGreat
namespace Go.Proofs.YtigenjeealkdlaaGreat
open Go.RowKit Go.Exe
/-! ### the document's forms: spans -/
def textS (b : ByteArray) : ByteArray := numS b.size ++ b
def boolS (b : Bool) : ByteArray := if b then numS 1 else numS 0
def valS (a : Att) : ByteArray := numS a.kind ++ textS a.text ++ numS a.num
def attS (a : Att) : ByteArray := textS a.key ++ valS a
def refS (r : Rf) : ByteArray := numS r.1 ++ numS r.2
def headS (s : Spn) : ByteArray := numS s.tr ++ numS s.id ++ numS s.pa ++ numS s.rev ++ numS s.clk ++ numS s.kd ++ textS s.sv ++ textS s.ve ++ textS s.op ++ numS s.st ++ numS s.en ++ boolS s.er ++ numS s.ats.length
def spanS (s : Spn) : ByteArray := s.lks.foldl (fun o r => o ++ refS r) (s.ats.foldl (fun o a => o ++ attS a) (headS s) ++ numS s.lks.length)
def spansS (l : List Spn) : ByteArray := l.foldl (fun o s => o ++ spanS s) (numS l.length)
def Att.I (a : Att) : Prop := (I64 a.kind ∧ I64 a.num) ∧ a.key.size ≤ 140737488355328 ∧ a.text.size ≤ 140737488355328
structure SpI (s : Spn) : Prop where
  tr : I64 s.tr
  id : I64 s.id
  pa : I64 s.pa
  rev : I64 s.rev
  clk : I64 s.clk
  kd : I64 s.kd
  st : I64 s.st
  en : I64 s.en
  sv : s.sv.size ≤ 140737488355328
  ve : s.ve.size ≤ 140737488355328
  op : s.op.size ≤ 140737488355328
  ats : ∀ a ∈ s.ats, a.I
  lks : ∀ r ∈ s.lks, I64 r.1 ∧ I64 r.2
  nat : s.ats.length ≤ 1000
  nlk : s.lks.length ≤ 1000
theorem textS_size (b : ByteArray) : (textS b).size ≤ 9 + b.size := by
  have := numS_size b.size
  unfold textS; rw [ByteArray.size_append]; omega
theorem boolS_size (b : Bool) : (boolS b).size ≤ 9 := by unfold boolS; split <;> exact numS_size _
theorem valS_size (a : Att) : (valS a).size ≤ 27 + a.text.size := by
  have h1 := numS_size a.kind; have h2 := numS_size a.num; have h3 := textS_size a.text
  unfold valS; rw [ByteArray.size_append, ByteArray.size_append]; omega
theorem attS_size (a : Att) : (attS a).size ≤ 36 + a.key.size + a.text.size := by
  have h1 := valS_size a; have h3 := textS_size a.key
  unfold attS; rw [ByteArray.size_append]; omega
theorem refS_size (r : Rf) : (refS r).size ≤ 18 := by
  have h1 := numS_size r.1; have h2 := numS_size r.2
  unfold refS; rw [ByteArray.size_append]; omega
theorem fold_size {α : Type} (f : α → ByteArray) (B : Nat) : ∀ (l : List α) (o : ByteArray), (∀ a ∈ l, (f a).size ≤ B) → (l.foldl (fun o a => o ++ f a) o).size ≤ o.size + l.length * B
  | [], o, _ => by simp
  | x :: r, o, h => by
    have h1 := fold_size f B r (o ++ f x) fun a ha => h a (by simp [ha])
    have h2 := h x (by simp)
    rw [List.foldl_cons, List.length_cons, Nat.succ_mul]
    rw [ByteArray.size_append] at h1
    omega
theorem fold_step {α : Type} {f : α → ByteArray} {l : List α} {i : Nat} {x : α} (h : l[i]? = some x) (o : ByteArray) : (l.take (i + 1)).foldl (fun o a => o ++ f a) o = (l.take i).foldl (fun o a => o ++ f a) o ++ f x := by
  rw [List.take_add_one, h]; simp [List.foldl_append]
attribute [local irreducible] W AX Run RunD AStep AOp AOpX AStB AStH AStG Fits PCall GCall PostG Post Stop
theorem text77_c (b : ByteArray) (h : b.size ≤ 140737488355328) : PCall Tryz.prog 77 [ft (.string b)] (ft (.string (textS b))) := by
  have c76 := num76_c b.size ⟨by omega, by omega⟩
  have z := numS_size b.size
  have z1 : (numS b.size).size + b.size ≤ 9223372036854775807 := by omega
  unfold textS
  refine PCall.intro (nt := 8) (rs := [.tmp 2]) Tryz.func77 rfl ⟨by kernel_rfl, by kernel_rfl, by kernel_rfl⟩ (by simp) ?_
  rintro ⟨P, w0, ok0, may, np, pblk⟩ rfl rfl
  repeat' (first | refine W.seq fun K hK => ?_ | refine W.block ?_ | ((first | refine wR ?_ | refine wD ?_ | refine W.skip ?_ | refine W.exit ?_ | refine W.ret (Post.ret ?_) | refine aP ?_ | refine aF ?_); simp only [go_sem, reduceCtorEq, z1]) | refine wT ?_ | refine wF ?_ | refine wC (fun h => ?_) (fun h => ?_) | refine iK ?_ | refine aI2 ?_ | (refine hK _ ?_; clear hK K) | clear hK K)
theorem bool78_c (b : Bool) : PCall Tryz.prog 78 [ft (.bool b)] (ft (.string (boolS b))) := by
  have c0 := num76_c 0 (by unfold I64; omega)
  have c1 := num76_c 1 (by unfold I64; omega)
  unfold boolS
  cases b with
  | false =>
    refine PCall.intro (nt := 6) (rs := [.tmp 2]) Tryz.func78 rfl ⟨by kernel_rfl, by kernel_rfl, by kernel_rfl⟩ (by simp) ?_
    rintro ⟨P, w0, ok0, may, np, pblk⟩ rfl rfl
    repeat' (first | refine W.seq fun K hK => ?_ | refine W.block ?_ | ((first | refine wR ?_ | refine wD ?_ | refine W.skip ?_ | refine W.exit ?_ | refine W.ret (Post.ret ?_) | refine aP ?_ | refine aF ?_); simp only [go_sem, reduceCtorEq]) | refine wT ?_ | refine wF ?_ | refine wC (fun h => ?_) (fun h => ?_) | refine iK ?_ | refine aI2 ?_ | (refine hK _ ?_; clear hK K) | clear hK K)
  | true =>
    refine PCall.intro (nt := 6) (rs := [.tmp 2]) Tryz.func78 rfl ⟨by kernel_rfl, by kernel_rfl, by kernel_rfl⟩ (by simp) ?_
    rintro ⟨P, w0, ok0, may, np, pblk⟩ rfl rfl
    repeat' (first | refine W.seq fun K hK => ?_ | refine W.block ?_ | ((first | refine wR ?_ | refine wD ?_ | refine W.skip ?_ | refine W.exit ?_ | refine W.ret (Post.ret ?_) | refine aP ?_ | refine aF ?_); simp only [go_sem, reduceCtorEq]) | refine wT ?_ | refine wF ?_ | refine wC (fun h => ?_) (fun h => ?_) | refine iK ?_ | refine aI2 ?_ | (refine hK _ ?_; clear hK K) | clear hK K)
theorem ref80_c (r : Rf) (h : I64 r.1 ∧ I64 r.2) : PCall Tryz.prog 80 [.g ((refA r).map .im)] (ft (.string (refS r))) := by
  have c1 := num76_c r.1 h.1
  have c2 := num76_c r.2 h.2
  have z1 := numS_size r.1
  have z2 := numS_size r.2
  have z : (numS r.1).size + (numS r.2).size ≤ 9223372036854775807 := by omega
  unfold refS
  simp only [refA, List.map]
  refine PCall.intro (nt := 10) (rs := [.tmp 2]) Tryz.func80 rfl ⟨by kernel_rfl, by kernel_rfl, by kernel_rfl⟩ (by simp) ?_
  rintro ⟨P, w0, ok0, may, np, pblk⟩ rfl rfl
  repeat' (first | refine W.seq fun K hK => ?_ | refine W.block ?_ | ((first | refine wR ?_ | refine wD ?_ | refine W.skip ?_ | refine W.exit ?_ | refine W.ret (Post.ret ?_) | refine aP ?_ | refine aF ?_); simp only [go_sem, reduceCtorEq, z]) | refine wT ?_ | refine wF ?_ | refine wC (fun h => ?_) (fun h => ?_) | refine iK ?_ | refine aI2 ?_ | (refine hK _ ?_; clear hK K) | clear hK K)
theorem val110_c (a : Att) (h : a.I) : PCall Tryz.prog 110 [.g [.im (.flat (.int .i64 a.kind)), .im (.flat (.string a.text)), .im (.flat (.int .i64 a.num))]] (ft (.string (valS a))) := by
  have c1 := num76_c a.kind h.1.1
  have c2 := num76_c a.num h.1.2
  have c3 := text77_c a.text h.2.2
  have z1 := numS_size a.kind
  have z2 := numS_size a.num
  have z3 := textS_size a.text
  have h3 := h.2.2
  have z : (numS a.kind).size + (textS a.text).size ≤ 9223372036854775807 := by omega
  have z' : (numS a.kind ++ textS a.text).size + (numS a.num).size ≤ 9223372036854775807 := by rw [ByteArray.size_append]; omega
  unfold valS
  refine PCall.intro (nt := 14) (rs := [.tmp 2]) Tryz.func110 rfl ⟨by kernel_rfl, by kernel_rfl, by kernel_rfl⟩ (by simp) ?_
  rintro ⟨P, w0, ok0, may, np, pblk⟩ rfl rfl
  repeat' (first | refine W.seq fun K hK => ?_ | refine W.block ?_ | ((first | refine wR ?_ | refine wD ?_ | refine W.skip ?_ | refine W.exit ?_ | refine W.ret (Post.ret ?_) | refine aP ?_ | refine aF ?_); simp only [go_sem, reduceCtorEq, z, z']) | refine wT ?_ | refine wF ?_ | refine wC (fun h => ?_) (fun h => ?_) | refine iK ?_ | refine aI2 ?_ | (refine hK _ ?_; clear hK K) | clear hK K)
theorem att79_c (a : Att) (h : a.I) : PCall Tryz.prog 79 [.g ((attA a).map .im)] (ft (.string (attS a))) := by
  have c1 := text77_c a.key h.2.1
  have c2 := val110_c a h
  have z1 := textS_size a.key
  have z2 := valS_size a
  have h2 := h.2.1
  have h3 := h.2.2
  have z : (textS a.key).size + (valS a).size ≤ 9223372036854775807 := by omega
  unfold attS
  simp only [attA, List.map]
  refine PCall.intro (nt := 10) (rs := [.tmp 2]) Tryz.func79 rfl ⟨by kernel_rfl, by kernel_rfl, by kernel_rfl⟩ (by simp) ?_
  rintro ⟨P, w0, ok0, may, np, pblk⟩ rfl rfl
  repeat' (first | refine W.seq fun K hK => ?_ | refine W.block ?_ | ((first | refine wR ?_ | refine wD ?_ | refine W.skip ?_ | refine W.exit ?_ | refine W.ret (Post.ret ?_) | refine aP ?_ | refine aF ?_); simp only [go_sem, reduceCtorEq, z]) | refine wT ?_ | refine wF ?_ | refine wC (fun h => ?_) (fun h => ?_) | refine iK ?_ | refine aI2 ?_ | (refine hK _ ?_; clear hK K) | clear hK K)
abbrev spB (s : Spn) : List Cell := [.im (.flat (.int .i64 s.tr)), .im (.flat (.int .i64 s.id)), .im (.flat (.int .i64 s.pa)), .im (.flat (.int .i64 s.rev)), .im (.flat (.int .i64 s.clk)), .im (.flat (.int .i64 s.kd)), .im (.flat (.string s.sv)), .im (.flat (.string s.ve)), .im (.flat (.string s.op)), .im (.flat (.int .i64 s.st)), .im (.flat (.int .i64 s.en)), .im (.flat (.bool s.er)), .im (.sl 134 (s.ats.map attA)), .im (.sl 137 (s.lks.map refA))]
theorem span46_c (s : Spn) (h : SpI s) : PCall Tryz.prog 46 [spT s] (ft (.string (spanS s))) := by
  have c1 := num76_c s.tr h.tr
  have c2 := num76_c s.id h.id
  have c3 := num76_c s.pa h.pa
  have c4 := num76_c s.rev h.rev
  have c5 := num76_c s.clk h.clk
  have c6 := num76_c s.kd h.kd
  have c7 := text77_c s.sv h.sv
  have c8 := text77_c s.ve h.ve
  have c9 := text77_c s.op h.op
  have c10 := num76_c s.st h.st
  have c11 := num76_c s.en h.en
  have c12 := bool78_c s.er
  have c13 := num76_c s.ats.length (by have := h.nat; unfold I64; omega)
  have c14 := num76_c s.lks.length (by have := h.nlk; unfold I64; omega)
  have cA : ∀ a ∈ s.ats, PCall Tryz.prog 79 [.g ((attA a).map .im)] (ft (.string (attS a))) := fun a ha => att79_c a (h.ats a ha)
  have cR : ∀ r ∈ s.lks, PCall Tryz.prog 80 [.g ((refA r).map .im)] (ft (.string (refS r))) := fun r hr => ref80_c r (h.lks r hr)
  have zA : ∀ a ∈ s.ats, (attS a).size ≤ 281474976710700 := fun a ha => by
    have h1 := attS_size a
    have h2 := h.ats a ha
    have h3 := h2.2.1
    have h4 := h2.2.2
    omega
  have zR : ∀ r ∈ s.lks, (refS r).size ≤ 18 := fun r _ => refS_size r
  have na := h.nat
  have nl := h.nlk
  have z1 := numS_size s.tr
  have z2 := numS_size s.id
  have z3 := numS_size s.pa
  have z4 := numS_size s.rev
  have z5 := numS_size s.clk
  have z6 := numS_size s.kd
  have z7 := textS_size s.sv
  have z8 := textS_size s.ve
  have z9 := textS_size s.op
  have z10 := numS_size s.st
  have z11 := numS_size s.en
  have z12 := boolS_size s.er
  have z13 := numS_size s.ats.length
  have z14 := numS_size s.lks.length
  have hsv := h.sv
  have hve := h.ve
  have hop := h.op
  clear h
  have hh : headS s = numS s.tr ++ numS s.id ++ numS s.pa ++ numS s.rev ++ numS s.clk ++ numS s.kd ++ textS s.sv ++ textS s.ve ++ textS s.op ++ numS s.st ++ numS s.en ++ boolS s.er ++ numS s.ats.length := rfl
  unfold spanS
  generalize numS s.tr = p1 at *
  generalize numS s.id = p2 at *
  generalize numS s.pa = p3 at *
  generalize numS s.rev = p4 at *
  generalize numS s.clk = p5 at *
  generalize numS s.kd = p6 at *
  generalize textS s.sv = p7 at *
  generalize textS s.ve = p8 at *
  generalize textS s.op = p9 at *
  generalize numS s.st = p10 at *
  generalize numS s.en = p11 at *
  generalize boolS s.er = p12 at *
  generalize numS s.ats.length = p13 at *
  generalize numS s.lks.length = p14 at *
  have q1 : p1.size + p2.size ≤ 9223372036854775807 := by omega
  have q2 : (p1 ++ p2).size + p3.size ≤ 9223372036854775807 := by simp only [ByteArray.size_append]; omega
  have q3 : (p1 ++ p2 ++ p3).size + p4.size ≤ 9223372036854775807 := by simp only [ByteArray.size_append]; omega
  have q4 : (p1 ++ p2 ++ p3 ++ p4).size + p5.size ≤ 9223372036854775807 := by simp only [ByteArray.size_append]; omega
  have q5 : (p1 ++ p2 ++ p3 ++ p4 ++ p5).size + p6.size ≤ 9223372036854775807 := by simp only [ByteArray.size_append]; omega
  have q6 : (p1 ++ p2 ++ p3 ++ p4 ++ p5 ++ p6).size + p7.size ≤ 9223372036854775807 := by simp only [ByteArray.size_append]; omega
  have q7 : (p1 ++ p2 ++ p3 ++ p4 ++ p5 ++ p6 ++ p7).size + p8.size ≤ 9223372036854775807 := by simp only [ByteArray.size_append]; omega
  have q8 : (p1 ++ p2 ++ p3 ++ p4 ++ p5 ++ p6 ++ p7 ++ p8).size + p9.size ≤ 9223372036854775807 := by simp only [ByteArray.size_append]; omega
  have q9 : (p1 ++ p2 ++ p3 ++ p4 ++ p5 ++ p6 ++ p7 ++ p8 ++ p9).size + p10.size ≤ 9223372036854775807 := by simp only [ByteArray.size_append]; omega
  have q10 : (p1 ++ p2 ++ p3 ++ p4 ++ p5 ++ p6 ++ p7 ++ p8 ++ p9 ++ p10).size + p11.size ≤ 9223372036854775807 := by simp only [ByteArray.size_append]; omega
  have q11 : (p1 ++ p2 ++ p3 ++ p4 ++ p5 ++ p6 ++ p7 ++ p8 ++ p9 ++ p10 ++ p11).size + p12.size ≤ 9223372036854775807 := by simp only [ByteArray.size_append]; omega
  have q12 : (p1 ++ p2 ++ p3 ++ p4 ++ p5 ++ p6 ++ p7 ++ p8 ++ p9 ++ p10 ++ p11 ++ p12).size + p13.size ≤ 9223372036854775807 := by simp only [ByteArray.size_append]; omega
  have qh : (headS s).size ≤ 422212465066200 := by rw [hh]; simp only [ByteArray.size_append]; omega
  simp only [spT, spA, List.map]
  refine PCall.intro (nt := 97) (rs := [.tmp 2]) Tryz.func46 rfl ⟨by kernel_rfl, by kernel_rfl, by kernel_rfl⟩ (by simp) ?_
  rintro ⟨P, w0, ok0, may, np, pblk⟩ rfl rfl
  repeat' (first | refine W.seq fun K hK => ?_ | refine W.block ?_ | ((first | refine wR ?_ | refine wD ?_ | refine W.skip ?_ | refine W.exit ?_ | refine W.ret (Post.ret ?_) | refine aP ?_ | refine aF ?_); simp only [go_sem, reduceCtorEq, q1, q2, q3, q4, q5, q6, q7, q8, q9, q10, q11, q12, List.length_map]) | refine wT ?_ | refine wF ?_ | refine wC (fun h => ?_) (fun h => ?_) | refine iK ?_ | refine aI2 ?_ | (refine hK _ ?_; clear hK K) | clear hK K)
  clear c1 c2 c3 c4 c5 c6 c7 c8 c9 c10 c11 c12 c13 q1 q2 q3 q4 q5 q6 q7 q8 q9 q10 q11 q12
  rw [← hh]
  clear hh z1 z2 z3 z4 z5 z6 z7 z8 z9 z10 z11 z12 z13
  generalize headS s = o0 at *
  have zo : ∀ i, i ≤ s.ats.length → ((s.ats.take i).foldl (fun o a => o ++ attS a) o0).size ≤ 300000000000000000 := fun i hi => by
    have h1 := fold_size attS 281474976710700 (s.ats.take i) o0 fun a ha => zA a (List.mem_of_mem_take ha)
    have h2 : (s.ats.take i).length * 281474976710700 ≤ 1000 * 281474976710700 := Nat.mul_le_mul_right _ (by rw [List.length_take]; omega)
    omega
  refine W.loopF (T := fun i : Nat => { t := [(1, .c (.ptr 0 0)), (3, ft (.string ((s.ats.take i).foldl (fun o a => o ++ attS a) o0))), (4, ft (.int .i64 (i : Nat)))], h := [(0, .box 88 (spB s))], nx := 1, ex := [], nt := 97 })
    (Inv := fun i => i ≤ s.ats.length) (μ := fun i => s.ats.length - i) (x0 := 0) ?_ (Nat.zero_le _) ?_
  · refine Fits.fit [(0, 0)] [1, 3, 4] 1 rfl rfl ?_
    simp only [go_sem]
    exact Fits.rfl
  rintro i hi KL hKL
  by_cases hlt : i < s.ats.length
  · obtain ⟨a, hx, hm, _⟩ := drop_at hlt
    have e1 : decide ((i : Int) < s.ats.length) = true := by simp; omega
    have e2 : decide (i < s.ats.length) = true := by simp; omega
    have hw := w64s i (by omega)
    have c79 := cA a hm
    have hst := fold_step hx (f := attS) o0
    have q1 := zo i hi
    have q2 := zA a hm
    have q3 : ((s.ats.take i).foldl (fun o a => o ++ attS a) o0).size + (attS a).size ≤ 9223372036854775807 := by omega
    have hKL2 := fun (s' : St) h => hKL.to (s' := s') (i + 1) (by omega) (by omega) h
    rw [hst] at hKL2
    clear hKL cA cR zo zA zR hst q1 q2
    generalize (s.ats.take i).foldl (fun o a => o ++ attS a) o0 = o at *
    simp only [attA, List.map] at c79
    repeat' (first | refine W.seq fun K hK => ?_ | refine W.block ?_ | ((first | refine wR ?_ | refine wD ?_ | refine W.skip ?_ | refine W.exit ?_ | refine W.ret (Post.ret ?_) | refine aP ?_ | refine aF ?_); simp only [go_sem, reduceCtorEq, List.getElem?_map, hx, attA, e1, e2, q3, hw, List.length_map]) | refine wT ?_ | refine wF ?_ | refine wC (fun h => ?_) (fun h => ?_) | refine iK ?_ | refine aI2 ?_ | (refine hK _ ?_; clear hK K) | clear hK K)
    refine hKL2 _ (Fits.fit [(0, 0)] [1, 3, 4] 1 rfl rfl ?_)
    simp only [go_sem]
    exact Fits.rfl
  · obtain rfl : i = s.ats.length := by omega
    have e1 : decide ((s.ats.length : Int) < s.ats.length) = false := by simp
    have q1 := zo _ hi
    rw [List.take_length] at q1 ⊢
    have q3 : (s.ats.foldl (fun o a => o ++ attS a) o0).size + p14.size ≤ 9223372036854775807 := by omega
    have q4 : (s.ats.foldl (fun o a => o ++ attS a) o0 ++ p14).size ≤ 300000000000000009 := by rw [ByteArray.size_append]; omega
    clear hKL zo zA cA
    generalize s.ats.foldl (fun o a => o ++ attS a) o0 = o1 at *
    repeat' (first | refine W.seq fun K hK => ?_ | refine W.block ?_ | ((first | refine wR ?_ | refine wD ?_ | refine W.skip ?_ | refine W.exit ?_ | refine W.ret (Post.ret ?_) | refine aP ?_ | refine aF ?_); simp only [go_sem, reduceCtorEq, e1, q3, List.length_map]) | refine wT ?_ | refine wF ?_ | refine wC (fun h => ?_) (fun h => ?_) | refine iK ?_ | refine aI2 ?_ | (refine hK _ ?_; clear hK K) | clear hK K)
    clear q3 c14
    generalize o1 ++ p14 = o2 at *
    have zo : ∀ i, i ≤ s.lks.length → ((s.lks.take i).foldl (fun o a => o ++ refS a) o2).size ≤ 300000000000018009 := fun i hi => by
      have h1 := fold_size refS 18 (s.lks.take i) o2 fun a ha => zR a (List.mem_of_mem_take ha)
      have h2 : (s.lks.take i).length * 18 ≤ 1000 * 18 := Nat.mul_le_mul_right _ (by rw [List.length_take]; omega)
      omega
    refine W.loopF (T := fun i : Nat => { t := [(1, .c (.ptr 0 0)), (3, ft (.string ((s.lks.take i).foldl (fun o a => o ++ refS a) o2))), (5, ft (.int .i64 (i : Nat)))], h := [(0, .box 88 (spB s))], nx := 1, ex := [], nt := 97 })
      (Inv := fun i => i ≤ s.lks.length) (μ := fun i => s.lks.length - i) (x0 := 0) ?_ (Nat.zero_le _) ?_
    · refine Fits.fit [(0, 0)] [1, 3, 5] 1 rfl rfl ?_
      simp only [go_sem]
      exact Fits.rfl
    rintro i hi KL hKL
    by_cases hlt : i < s.lks.length
    · obtain ⟨a, hx, hm, _⟩ := drop_at hlt
      have e1 : decide ((i : Int) < s.lks.length) = true := by simp; omega
      have e2 : decide (i < s.lks.length) = true := by simp; omega
      have hw := w64s i (by omega)
      have c80 := cR a hm
      have hst := fold_step hx (f := refS) o2
      have q1 := zo i hi
      have q2 := zR a hm
      have q3 : ((s.lks.take i).foldl (fun o a => o ++ refS a) o2).size + (refS a).size ≤ 9223372036854775807 := by omega
      have hKL2 := fun (s' : St) h => hKL.to (s' := s') (i + 1) (by omega) (by omega) h
      rw [hst] at hKL2
      clear hKL cR zo zR hst q1 q2
      generalize (s.lks.take i).foldl (fun o a => o ++ refS a) o2 = o at *
      simp only [refA, List.map] at c80
      repeat' (first | refine W.seq fun K hK => ?_ | refine W.block ?_ | ((first | refine wR ?_ | refine wD ?_ | refine W.skip ?_ | refine W.exit ?_ | refine W.ret (Post.ret ?_) | refine aP ?_ | refine aF ?_); simp only [go_sem, reduceCtorEq, List.getElem?_map, hx, refA, e1, e2, q3, hw, List.length_map]) | refine wT ?_ | refine wF ?_ | refine wC (fun h => ?_) (fun h => ?_) | refine iK ?_ | refine aI2 ?_ | (refine hK _ ?_; clear hK K) | clear hK K)
      refine hKL2 _ (Fits.fit [(0, 0)] [1, 3, 5] 1 rfl rfl ?_)
      simp only [go_sem]
      exact Fits.rfl
    · obtain rfl : i = s.lks.length := by omega
      have e1 : decide ((s.lks.length : Int) < s.lks.length) = false := by simp
      rw [List.take_length]
      clear hKL zo zR cR
      repeat' (first | refine W.seq fun K hK => ?_ | refine W.block ?_ | ((first | refine wR ?_ | refine wD ?_ | refine W.skip ?_ | refine W.exit ?_ | refine W.ret (Post.ret ?_) | refine aP ?_ | refine aF ?_); simp only [go_sem, reduceCtorEq, e1, List.length_map]) | refine wT ?_ | refine wF ?_ | refine wC (fun h => ?_) (fun h => ?_) | refine iK ?_ | refine aI2 ?_ | (refine hK _ ?_; clear hK K) | clear hK K)
end Go.Proofs.YtigenjeealkdlaaGreat
namespace Go.Proofs.YtigenjeealkdlaaGreat
open Go.RowKit Go.Exe
/-! ### the document's forms: lists of spans -/
/-- A span whose form is short. -/
def SpZ (s : Spn) : Prop := SpI s ∧ (spanS s).size ≤ 1000000
attribute [local irreducible] W AX Run RunD AStep AOp AOpX AStB AStH AStG Fits PCall GCall PostG Post Stop
theorem spans72_c (l : List Spn) (h : ∀ s ∈ l, SpZ s) (hlen : l.length ≤ 1000000000) : PCall Tryz.prog 72 [spsT l] (ft (.string (spansS l))) := by
  have c76 := num76_c l.length ⟨by omega, by omega⟩
  have z0 := numS_size l.length
  unfold spansS
  generalize numS l.length = o0 at *
  have zo : ∀ i, i ≤ l.length → ((l.take i).foldl (fun o a => o ++ spanS a) o0).size ≤ 1000000000000009 := fun i hi => by
    have h1 := fold_size spanS 1000000 (l.take i) o0 fun a ha => (h a (List.mem_of_mem_take ha)).2
    have h2 : (l.take i).length * 1000000 ≤ 1000000000 * 1000000 := Nat.mul_le_mul_right _ (by rw [List.length_take]; omega)
    omega
  refine PCall.intro (nt := 22) (rs := [.tmp 2]) Tryz.func72 rfl ⟨by kernel_rfl, by kernel_rfl, by kernel_rfl⟩ (by simp) ?_
  rintro ⟨P, w0, ok0, may, np, pblk⟩ rfl rfl
  repeat' (first | refine W.seq fun K hK => ?_ | refine W.block ?_ | ((first | refine wR ?_ | refine wD ?_ | refine W.skip ?_ | refine W.exit ?_ | refine W.ret (Post.ret ?_) | refine aP ?_ | refine aF ?_); simp only [go_sem, reduceCtorEq, List.length_map]) | refine wT ?_ | refine wF ?_ | refine wC (fun h => ?_) (fun h => ?_) | refine iK ?_ | refine aI2 ?_ | (refine hK _ ?_; clear hK K) | clear hK K)
  clear c76
  refine W.loopF (T := fun i : Nat => { t := [(0, spsT l), (3, ft (.string ((l.take i).foldl (fun o a => o ++ spanS a) o0))), (4, ft (.int .i64 (i : Nat)))], h := [], nx := 0, ex := [], nt := 22 })
    (Inv := fun i => i ≤ l.length) (μ := fun i => l.length - i) (x0 := 0) ?_ (Nat.zero_le _) ?_
  · refine Fits.fit [] [0, 3, 4] 0 rfl rfl ?_
    simp only [go_sem]
    exact Fits.rfl
  rintro i hi KL hKL
  by_cases hlt : i < l.length
  · obtain ⟨s, hx, hm, _⟩ := drop_at hlt
    have e1 : decide ((i : Int) < l.length) = true := by simp; omega
    have e2 : decide (i < l.length) = true := by simp; omega
    have hw := w64s i (by omega)
    have c46 := span46_c s (h s hm).1
    have hst := fold_step hx (f := spanS) o0
    have q1 := zo i hi
    have q2 := (h s hm).2
    have q3 : ((l.take i).foldl (fun o a => o ++ spanS a) o0).size + (spanS s).size ≤ 9223372036854775807 := by omega
    have hKL2 := fun (s' : St) h => hKL.to (s' := s') (i + 1) (by omega) (by omega) h
    rw [hst] at hKL2
    clear hKL zo hst q1 q2
    generalize (l.take i).foldl (fun o a => o ++ spanS a) o0 = o at *
    simp only [spT, spA, List.map] at c46
    repeat' (first | refine W.seq fun K hK => ?_ | refine W.block ?_ | ((first | refine wR ?_ | refine wD ?_ | refine W.skip ?_ | refine W.exit ?_ | refine W.ret (Post.ret ?_) | refine aP ?_ | refine aF ?_); simp only [go_sem, reduceCtorEq, List.getElem?_map, hx, spA, e1, e2, q3, hw, List.length_map]) | refine wT ?_ | refine wF ?_ | refine wC (fun h => ?_) (fun h => ?_) | refine iK ?_ | refine aI2 ?_ | (refine hK _ ?_; clear hK K) | clear hK K)
    refine hKL2 _ (Fits.fit [] [0, 3, 4] 0 rfl rfl ?_)
    simp only [go_sem]
    exact Fits.rfl
  · obtain rfl : i = l.length := by omega
    have e1 : decide ((l.length : Int) < l.length) = false := by simp
    rw [List.take_length]
    clear hKL zo
    repeat' (first | refine W.seq fun K hK => ?_ | refine W.block ?_ | ((first | refine wR ?_ | refine wD ?_ | refine W.skip ?_ | refine W.exit ?_ | refine W.ret (Post.ret ?_) | refine aP ?_ | refine aF ?_); simp only [go_sem, reduceCtorEq, e1, List.length_map]) | refine wT ?_ | refine wF ?_ | refine wC (fun h => ?_) (fun h => ?_) | refine iK ?_ | refine aI2 ?_ | (refine hK _ ?_; clear hK K) | clear hK K)
def eqF (a b : List Spn) : Bool := (spansS a).toList == (spansS b).toList
theorem same39_c (a b : List Spn) (ha : ∀ s ∈ a, SpZ s) (hb : ∀ s ∈ b, SpZ s) (hla : a.length ≤ 1000000000) (hlb : b.length ≤ 1000000000) : PCall Tryz.prog 39 [spsT a, spsT b] (ft (.bool (eqF a b))) := by
  have c1 := spans72_c a ha hla
  have c2 := spans72_c b hb hlb
  unfold eqF
  refine PCall.intro (nt := 10) (rs := [.tmp 4]) Tryz.func39 rfl ⟨by kernel_rfl, by kernel_rfl, by kernel_rfl⟩ (by simp) ?_
  rintro ⟨P, w0, ok0, may, np, pblk⟩ rfl rfl
  repeat' (first | refine W.seq fun K hK => ?_ | refine W.block ?_ | ((first | refine wR ?_ | refine wD ?_ | refine W.skip ?_ | refine W.exit ?_ | refine W.ret (Post.ret ?_) | refine aP ?_ | refine aF ?_); simp only [go_sem, reduceCtorEq]) | refine wT ?_ | refine wF ?_ | refine wC (fun h => ?_) (fun h => ?_) | refine iK ?_ | refine aI2 ?_ | (refine hK _ ?_; clear hK K) | clear hK K)
theorem eqF_refl (a : List Spn) : eqF a a = true := by unfold eqF; simp
/-! ### the forms of small numbers lead back -/
end Go.Proofs.YtigenjeealkdlaaGreat
namespace Go.Proofs.YtigenjeealkdlaaGreat
open Go.RowKit Go.Exe
/-! ### what an assembler tells, out of the list that it holds -/
theorem keys_is {m : RM} {L : List Spn} (h : Hld m L) : srtI (m.map (·.1)) = trsF L := lt_uniI (srtI_lt h.keys) (trsF_lt L) fun y => by rw [srtI_mem, trsF_mem]; exact h.mem y
theorem recsL_set {m : RM} {L : List Spn} (h : Hld m L) : setS (recsL m) = setS L := setS_eq fun s => by
  unfold recsL
  rw [List.mem_flatMap]
  constructor
  · rintro ⟨k, _, hs⟩
    rw [h.row, mem_setS] at hs
    exact (mem_trF.1 hs).1
  · intro hs
    refine ⟨s.tr, ?_, ?_⟩
    · rw [srtI_mem, h.mem]
      exact ⟨s, hs, rfl⟩
    · rw [h.row, mem_setS]
      exact mem_trF.2 ⟨hs, rfl⟩
theorem trF_trF (L : List Spn) (k : Int) : trF (trF L k) k = trF L k := by
  unfold trF
  rw [List.filter_filter]
  refine List.filter_congr fun s _ => ?_
  simp
theorem ofS_row {m : RM} {L : List Spn} (h : Hld m L) (k : Int) : ofS (recs m k) k = ofS L k := by
  show winS (trF (recs m k) k) = winS (trF L k)
  rw [h.row, trF_set, trF_trF, winS_set]
theorem row_ne {m : RM} {L : List Spn} (h : Hld m L) {k : Int} (hk : k ∈ trsF L) : recs m k ≠ [] := by
  obtain ⟨s, hs, e⟩ := trsF_mem.1 hk
  rw [h.row]
  exact List.ne_nil_of_mem (mem_setS.2 (mem_trF.2 ⟨hs, e⟩))
theorem mem_le {m : RM} {L : List Spn} (h : Hld m L) : m.length ≤ L.length := by
  have h1 : (m.map (·.1)).length ≤ (L.map Spn.tr).length := h.keys.length_le_of_subset fun k hk => by
    obtain ⟨s, hs, rfl⟩ := (h.mem k).1 hk
    exact List.mem_map_of_mem hs
  rwa [List.length_map, List.length_map] at h1
theorem trsF_le (L : List Spn) : (trsF L).length ≤ L.length := by
  unfold trsF
  rw [srtI_len]
  exact trsK_le L L.length
theorem rows_nodup {m : RM} {L : List Spn} (h : Hld m L) : (recsL m).Nodup := by
  unfold recsL
  have hn : (srtI (m.map (·.1))).Nodup := (List.mergeSort_perm _ _).nodup_iff.2 h.keys
  refine List.pairwise_flatMap.2 ⟨fun k _ => by rw [h.row]; exact lt_nodup (setS_lt _), hn.imp fun {a b} hab x hx y hy e => ?_⟩
  subst e
  rw [h.row, mem_setS] at hx hy
  exact hab ((mem_trF.1 hx).2.symm.trans (mem_trF.1 hy).2)
theorem recsL_le {m : RM} {L : List Spn} (h : Hld m L) : (recsL m).length ≤ L.length := (rows_nodup h).length_le_of_subset fun s hs => by
  unfold recsL at hs
  obtain ⟨k, _, hs⟩ := List.mem_flatMap.1 hs
  rw [h.row, mem_setS] at hs
  exact (mem_trF.1 hs).1
theorem row_le {m : RM} {L : List Spn} (h : Hld m L) : ∀ y ∈ m, y.2.length ≤ L.length := fun y hy => by
  have hg : ∀ (m : RM), (m.map (·.1)).Nodup → y ∈ m → recs m y.1 = y.2 := by
    intro m
    induction m with
    | nil => intro _ h; cases h
    | cons z r ih =>
      intro hn hy
      rw [List.map_cons, List.nodup_cons] at hn
      unfold recs getK
      rcases List.mem_cons.1 hy with rfl | hy
      · rw [if_pos rfl]; rfl
      · rw [if_neg (fun e : z.1 = y.1 => hn.1 (by rw [e]; exact List.mem_map_of_mem hy))]
        exact ih hn.2 hy
  have h1 := hg m h.keys hy
  rw [← h1, h.row]
  have h2 := setS_le (trF L y.1)
  have h3 : (trF L y.1).length ≤ L.length := List.length_filter_le _ _
  omega
end Go.Proofs.YtigenjeealkdlaaGreat
namespace Go.Proofs.YtigenjeealkdlaaGreat
open Go.RowKit Go.Exe
attribute [local irreducible] W AX Run RunD AStep AOp AOpX AStB AStH AStG Fits PCall GCall PostG Post Stop
theorem agrees_c (c144 : SortC Tryz.prog 144 14) (c85 : SortI Tryz.prog 85) (g84 : GrowC Tryz.prog 84 3 1 8) {m : RM} {L : List Spn} (h : Hld m L) (hz : ∀ s ∈ L, SpZ s) (h0 : ∀ s ∈ L, s.id ≠ 0) (hlen : L.length ≤ 100000) :
    GCall Tryz.prog 43 2 (St.g [.c (.ptr 0 0), spsT L] (asmH m) 2) (St.r (ft (.bool true)) (asmH m) 2) := by
  have hml := mem_le h
  have hkI : ∀ k ∈ m.map (·.1), I64 k := fun k hk => by
    obtain ⟨s, hs, rfl⟩ := (h.mem k).1 hk
    exact (hz s hs).1.tr
  have hrl := recsL_le h
  have c41 := records_c c144 c85 m (by omega) hkI (by omega)
  rw [recsL_set h] at c41
  have c65 := set65_c c144 L
  have c39 := same39_c (setS L) (setS L) (fun s hs => hz s (mem_setS.1 hs)) (fun s hs => hz s (mem_setS.1 hs)) (by have := setS_le L; omega) (by have := setS_le L; omega)
  rw [eqF_refl] at c39
  have c71 := traces_c c85 m (by omega)
  rw [keys_is h] at c71
  have c75 := traces75_c c85 L (fun s hs => (hz s hs).1.tr) (by omega)
  have c23 := same_c (trsF L) (trsF L)
  rw [decide_eq_true rfl] at c23
  have c37 := data_c c144 c85 m (by omega) hkI
  rw [keys_is h] at c37
  have hkL : ∀ k ∈ trsF L, I64 k := fun k hk => by
    obtain ⟨s, hs, rfl⟩ := trsF_mem.1 hk
    exact (hz s hs).1.tr
  have hlt := trsF_le L
  have hks : ∀ k ∈ trsF L, recs m k ≠ [] := fun k hk => row_ne h hk
  have c44 : ∀ k ∈ trsF L, GCall Tryz.prog 44 2 (St.g [.c (.ptr 0 0), ft (.int .i64 k)] (asmH m) 2) (St.r (.t [(true, (trA (treeOf k (ofS L k))).map .im), (false, [fl (.int .i64 0)])]) (asmH m) 2) := fun k hk => by
    have := tree44_c c144 c85 g84 m k (hkL k hk) (hks k hk) (by rw [ofS_row h]; exact fun s hs => ⟨(hz s (ofS_mem hs).1).1.id, (hz s (ofS_mem hs).1).1.pa⟩)
    rwa [ofS_row h] at this
  have c17 : ∀ k, PCall Tryz.prog 17 [spsT L, ft (.int .i64 k)] (trT (treeOf k (ofS L k))) := fun k => by
    have := build17_c c144 L k (by have := ofS_len L k; omega)
    rwa [mTree_is (ofS_srt _ _) (fun s hs => h0 s (ofS_mem hs).1)] at this
  have c18 : ∀ k, PCall Tryz.prog 18 [trT (treeOf k (ofS L k)), trT (treeOf k (ofS L k))] (ft (.bool true)) := fun k => by
    have := sameTrees_c (treeOf k (ofS L k)) (treeOf k (ofS L k))
    rwa [trEq_refl] at this
  have c45 : ∀ k ∈ trsF L, GCall Tryz.prog 45 2 (St.g [.c (.ptr 0 0), ft (.int .i64 k)] (asmH m) 2) (St.r (spsT (ofS L k)) (asmH m) 2) := fun k hk => by
    have := spans_c c144 m k (hkL k hk)
    rwa [hld_win h] at this
  have c50 := fun k => of_c c144 L k
  have c39k : ∀ k, PCall Tryz.prog 39 [spsT (ofS L k), spsT (ofS L k)] (ft (.bool true)) := fun k => by
    have := same39_c (ofS L k) (ofS L k) (fun s hs => hz s (ofS_mem hs).1) (fun s hs => hz s (ofS_mem hs).1) (by have := ofS_len L k; omega) (by have := ofS_len L k; omega)
    rwa [eqF_refl] at this
  have hdt : ∀ k, dtA m k = [.flat (.int .i64 k), .flat (.int .i64 1), .sl 88 ((ofS L k).map spA)] := fun k => by unfold dtA; rw [hld_win h]
  clear c144 c85 g84 hz h0 hkI hks hml hrl h
  generalize trsF L = ks at *
  unfold asmH at *
  refine GCall.introG (nt := 116) (rs := [.tmp 4]) Tryz.func43 rfl ⟨by kernel_rfl, by kernel_rfl, by kernel_rfl⟩ (by simp) ?_
  rintro ⟨P, w0, ok0, may, np, pblk⟩ rfl rfl
  simp only [go_sem]
  repeat' (first | refine W.seq fun K hK => ?_ | refine W.block ?_ | ((first | refine wR ?_ | refine wD ?_ | refine W.skip ?_ | refine W.exit ?_ | refine W.ret (Post.ret ?_) | refine aP ?_ | refine aF ?_ | refine aL ?_ | refine aU ?_ | refine aM ?_ | refine aN ?_ | refine aR ?_); simp only [go_sem, reduceCtorEq]) | refine wT ?_ | refine wF ?_ | refine wC (fun h => ?_) (fun h => ?_) | refine iK ?_ | refine aI2 ?_ | (refine hK _ ?_; clear hK K) | clear hK K)
  refine AX.gcall [0, 1] rfl rfl (c41) (by simp only [go_sem, reduceCtorEq, rnEs_rcE]) (by simp only [go_sem, reduceCtorEq, rnEs_rcE]) rfl rfl (by simp only [go_sem, Obj.owns]) rfl (by simp only [go_sem, Obj.owns]) rfl rfl ?_
  simp only [go_sem, reduceCtorEq, rnEs_rcE]
  clear c41
  repeat' (first | refine W.seq fun K hK => ?_ | refine W.block ?_ | ((first | refine wR ?_ | refine wD ?_ | refine W.skip ?_ | refine W.exit ?_ | refine W.ret (Post.ret ?_) | refine aP ?_ | refine aF ?_ | refine aL ?_ | refine aU ?_ | refine aM ?_ | refine aN ?_ | refine aR ?_); simp only [go_sem, reduceCtorEq]) | refine wT ?_ | refine wF ?_ | refine wC (fun h => ?_) (fun h => ?_) | refine iK ?_ | refine aI2 ?_ | (refine hK _ ?_; clear hK K) | clear hK K)
  refine AX.gcall [0, 1] rfl rfl (c71) (by simp only [go_sem, reduceCtorEq, rnEs_rcE]) (by simp only [go_sem, reduceCtorEq, rnEs_rcE]) rfl rfl (by simp only [go_sem, Obj.owns]) rfl (by simp only [go_sem, Obj.owns]) rfl rfl ?_
  simp only [go_sem, reduceCtorEq, rnEs_rcE]
  clear c71
  repeat' (first | refine W.seq fun K hK => ?_ | refine W.block ?_ | ((first | refine wR ?_ | refine wD ?_ | refine W.skip ?_ | refine W.exit ?_ | refine W.ret (Post.ret ?_) | refine aP ?_ | refine aF ?_ | refine aL ?_ | refine aU ?_ | refine aM ?_ | refine aN ?_ | refine aR ?_); simp only [go_sem, reduceCtorEq]) | refine wT ?_ | refine wF ?_ | refine wC (fun h => ?_) (fun h => ?_) | refine iK ?_ | refine aI2 ?_ | (refine hK _ ?_; clear hK K) | clear hK K)
  refine AX.gcall [0, 1] rfl rfl (c37) (by simp only [go_sem, reduceCtorEq, rnEs_rcE]) (by simp only [go_sem, reduceCtorEq, rnEs_rcE]) rfl rfl (by simp only [go_sem, Obj.owns]) rfl (by simp only [go_sem, Obj.owns]) rfl rfl ?_
  simp only [go_sem, reduceCtorEq, rnEs_rcE]
  clear c37
  have e0 : ((ks.length : Int) != (ks.length : Int)) = false := by simp
  repeat' (first | refine W.seq fun K hK => ?_ | refine W.block ?_ | ((first | refine wR ?_ | refine wD ?_ | refine W.skip ?_ | refine W.exit ?_ | refine W.ret (Post.ret ?_) | refine aP ?_ | refine aF ?_ | refine aL ?_ | refine aU (hnn := by simp only [go_sem, reduceCtorEq, e0, List.length_map, imR_len]) ?_ | refine aM ?_ | refine aN ?_ | refine aR ?_); simp only [go_sem, reduceCtorEq, e0, List.length_map, imR_len]) | refine wT ?_ | refine wF ?_ | refine wC (fun h => ?_) (fun h => ?_) | refine iK ?_ | refine aI2 ?_ | (refine hK _ ?_; clear hK K) | clear hK K)
  clear c65 c39 c75 c23 e0
  refine W.loopF (T := fun i : Nat => { t := [(0, .c (.ptr 0 0)), (1, spsT L), (5, .c (.ref 2)), (6, intsT ks), (7, ft (.int .i64 (i : Nat)))], h := [(0, .box 115 [.mp 1]), (1, .map 3 (rcE m)), (2, .row 74 (imR (ks.map (dtA m))))], nx := 3, ex := [], nt := 116 })
    (Inv := fun i => i ≤ ks.length) (μ := fun i => ks.length - i) (x0 := 0) ?_ (Nat.zero_le _) ?_
  · refine Fits.fit [(0, 0), (1, 1), (22, 2)] [0, 1, 5, 6, 7] 3 rfl rfl ?_
    simp only [go_sem, rnEs_rcE]
    exact Fits.rfl
  rintro i hi KL hKL
  by_cases hlt2 : i < ks.length
  · obtain ⟨k, hx, hm, _⟩ := drop_at hlt2
    have e1 : decide ((i : Int) < ks.length) = true := by simp; omega
    have e2 : decide (i < ks.length) = true := by simp; omega
    have e3 : (k != k) = false := by simp
    have e4 : ((1 : Int) != 1) = false := by decide
    have e5 : ((0 : Int) != 0) = false := by decide
    have hw := w64s i (by omega)
    have k44 := c44 k hm
    have k45 := c45 k hm
    have k17 := c17 k
    have k18 := c18 k
    have k50 := c50 k
    have k39 := c39k k
    have hdk := hdt k
    have hxd : (imR (ks.map (dtA m)))[i]? = some [.im (.flat (.int .i64 k)), .im (.flat (.int .i64 1)), .im (.sl 88 ((ofS L k).map spA))] := by
      rw [imR, List.getElem?_map, List.getElem?_map, hx]
      simp [hdk, imL]
    clear c44 c45 c17 c18 c50 c39k hdt hdk
    generalize treeOf k (ofS L k) = T at *
    generalize ofS L k = o at *
    simp only [trT, trA, List.map] at k44 k17 k18
    repeat' (first | refine W.seq fun K hK => ?_ | refine W.block ?_ | ((first | refine wR ?_ | refine wD ?_ | refine W.skip ?_ | refine W.exit ?_ | refine W.ret (Post.ret ?_) | refine aP ?_ | refine aF ?_ | refine aL ?_ | refine aU (hnn := by simp only [go_sem, reduceCtorEq, List.getElem?_map, hx, iA, e1, e2, List.length_map]) ?_ | refine aM ?_ | refine aN ?_ | refine aR ?_); simp only [go_sem, reduceCtorEq, List.getElem?_map, hx, iA, e1, e2, List.length_map]) | refine wT ?_ | refine wF ?_ | refine wC (fun h => ?_) (fun h => ?_) | refine iK ?_ | refine aI2 ?_ | (refine hK _ ?_; clear hK K) | clear hK K)
    refine AX.gcall [0, 1] rfl rfl (k44) (by simp only [go_sem, reduceCtorEq, rnEs_rcE, List.getElem?_map, hx, hxd, iA, e1, e2, e3, e4, e5, hw, List.length_map, imR_len]) (by simp only [go_sem, reduceCtorEq, rnEs_rcE, List.getElem?_map, hx, hxd, iA, e1, e2, e3, e4, e5, hw, List.length_map, imR_len]) rfl rfl (by simp only [go_sem, Obj.owns]) rfl (by simp only [go_sem, Obj.owns]) rfl rfl ?_
    simp only [go_sem, reduceCtorEq, rnEs_rcE, List.getElem?_map, hx, hxd, iA, e1, e2, e3, e4, e5, hw, List.length_map, imR_len]
    clear k44
    repeat' (first | refine W.seq fun K hK => ?_ | refine W.block ?_ | ((first | refine wR ?_ | refine wD ?_ | refine W.skip ?_ | refine W.exit ?_ | refine W.ret (Post.ret ?_) | refine aP ?_ | refine aF ?_ | refine aL ?_ | refine aU (hnn := by simp only [go_sem, reduceCtorEq, List.getElem?_map, hx, iA, e1, e2, e5, List.length_map]) ?_ | refine aM ?_ | refine aN ?_ | refine aR ?_); simp only [go_sem, reduceCtorEq, List.getElem?_map, hx, iA, e1, e2, e5, List.length_map]) | refine wT ?_ | refine wF ?_ | refine wC (fun h => ?_) (fun h => ?_) | refine iK ?_ | refine aI2 ?_ | (refine hK _ ?_; clear hK K) | clear hK K)
    refine AX.gcall [0, 1] rfl rfl (k45) (by simp only [go_sem, reduceCtorEq, rnEs_rcE, List.getElem?_map, hx, hxd, iA, e1, e2, e3, e4, e5, hw, List.length_map, imR_len]) (by simp only [go_sem, reduceCtorEq, rnEs_rcE, List.getElem?_map, hx, hxd, iA, e1, e2, e3, e4, e5, hw, List.length_map, imR_len]) rfl rfl (by simp only [go_sem, Obj.owns]) rfl (by simp only [go_sem, Obj.owns]) rfl rfl ?_
    simp only [go_sem, reduceCtorEq, rnEs_rcE, List.getElem?_map, hx, hxd, iA, e1, e2, e3, e4, e5, hw, List.length_map, imR_len]
    clear k45
    repeat' (first | refine W.seq fun K hK => ?_ | refine W.block ?_ | ((first | refine wR ?_ | refine wD ?_ | refine W.skip ?_ | refine W.exit ?_ | refine W.ret (Post.ret ?_) | refine aP ?_ | refine aF ?_ | refine aL ?_ | refine aU (hnn := by simp only [go_sem, reduceCtorEq, List.getElem?_map, hx, hxd, iA, e1, e2, e3, e4, e5, hw, List.length_map, imR_len]) ?_ | refine aM ?_ | refine aN ?_ | refine aR ?_); simp only [go_sem, reduceCtorEq, List.getElem?_map, hx, hxd, iA, e1, e2, e3, e4, e5, hw, List.length_map, imR_len]) | refine wT ?_ | refine wF ?_ | refine wC (fun h => ?_) (fun h => ?_) | refine iK ?_ | refine aI2 ?_ | (refine hK _ ?_; clear hK K) | clear hK K)
    refine hKL.to (i + 1) (by omega) (by omega) ?_
    refine Fits.fit [(0, 0), (1, 1), (2, 2)] [0, 1, 5, 6, 7] 3 rfl rfl ?_
    simp only [go_sem, rnEs_rcE]
    exact Fits.rfl
  · obtain rfl : i = ks.length := by omega
    have e1 : decide ((ks.length : Int) < ks.length) = false := by simp
    clear hKL c44 c45 c17 c18 c50 c39k hdt
    repeat' (first | refine W.seq fun K hK => ?_ | refine W.block ?_ | ((first | refine wR ?_ | refine wD ?_ | refine W.skip ?_ | refine W.exit ?_ | refine W.ret (Post.ret ?_) | refine aP ?_ | refine aF ?_ | refine aL ?_ | refine aU (hnn := by simp only [go_sem, reduceCtorEq, e1, List.length_map]) ?_ | refine aM ?_ | refine aN ?_ | refine aR ?_); simp only [go_sem, reduceCtorEq, e1, List.length_map]) | refine wT ?_ | refine wF ?_ | refine wC (fun h => ?_) (fun h => ?_) | refine iK ?_ | refine aI2 ?_ | (refine hK _ ?_; clear hK K) | clear hK K)
    refine W.ret (PostG.ret (Fits.fit [(0, 0), (1, 1)] [4] 2 rfl rfl Fits.rfl) rfl rfl ?_)
    simp only [St.r, go_sem, rnEs_rcE]
end Go.Proofs.YtigenjeealkdlaaGreat
namespace Go.Proofs.YtigenjeealkdlaaGreat
open Go.RowKit Go.Exe
theorem spanS_le (s : Spn) (K : Nat) (h1 : s.sv.size ≤ K) (h2 : s.ve.size ≤ K) (h3 : s.op.size ≤ K) (h4 : ∀ a ∈ s.ats, a.key.size ≤ K ∧ a.text.size ≤ K) : (spanS s).size ≤ 200 + 3 * K + s.ats.length * (36 + 2 * K) + s.lks.length * 18 := by
  have z1 := numS_size s.tr
  have z2 := numS_size s.id
  have z3 := numS_size s.pa
  have z4 := numS_size s.rev
  have z5 := numS_size s.clk
  have z6 := numS_size s.kd
  have z7 := textS_size s.sv
  have z8 := textS_size s.ve
  have z9 := textS_size s.op
  have z10 := numS_size s.st
  have z11 := numS_size s.en
  have z12 := boolS_size s.er
  have z13 := numS_size s.ats.length
  have z14 := numS_size s.lks.length
  have hh : (headS s).size ≤ 144 + 3 * K := by unfold headS; simp only [ByteArray.size_append]; omega
  have h5 := fold_size attS (36 + 2 * K) s.ats (headS s) fun a ha => by have := attS_size a; have := h4 a ha; omega
  unfold spanS
  have h6 := fold_size refS 18 s.lks (s.ats.foldl (fun o a => o ++ attS a) (headS s) ++ numS s.lks.length) fun r _ => refS_size r
  rw [ByteArray.size_append] at h6
  omega
theorem fam_Z (q : Fm) : SpZ (famS q) := by
  have e1 : (famS q).sv.size = 1 := rfl
  have e2 : (famS q).ve.size = 0 := rfl
  have e3 : (famS q).op.size = 1 := rfl
  have i1 : I64 1 := by unfold I64; omega
  have i0 : I64 0 := by unfold I64; omega
  refine ⟨{ tr := ?_, id := ?_, pa := ?_, rev := ?_, clk := i1, kd := i1, st := i0, en := i0, sv := by rw [e1]; decide, ve := by rw [e2]; decide, op := by rw [e3]; decide, ats := fun a ha => (by cases ha), lks := fun a ha => (by cases ha), nat := Nat.zero_le _, nlk := Nat.zero_le _ }, ?_⟩
  · show I64 ((1 + q.1 % 2 : Nat) : Int); unfold I64; omega
  · show I64 ((1 + q.2.1 % 6 : Nat) : Int); unfold I64; omega
  · show I64 ((q.2.2.1 % 8 : Nat) : Int); unfold I64; omega
  · show I64 ((q.2.2.2 % 3 : Nat) : Int); unfold I64; omega
  · have := spanS_le (famS q) 1 (by omega) (by omega) (by omega) (fun a ha => by cases ha)
    have h1 : (famS q).ats.length = 0 := rfl
    have h2 : (famS q).lks.length = 0 := rfl
    rw [h1, h2] at this
    omega
theorem famL_Z (l : List Fm) : ∀ s ∈ famL l, SpZ s := fun s hs => by
  obtain ⟨q, _, rfl⟩ := famL_mem hs
  exact fam_Z q
theorem famL_id0 (l : List Fm) : ∀ s ∈ famL l, s.id ≠ 0 := fun s hs => by
  obtain ⟨q, _, rfl⟩ := famL_mem hs
  show ((1 + q.2.1 % 6 : Nat) : Int) ≠ 0
  omega
theorem Hld.congr {m : RM} {L L' : List Spn} (h : Hld m L) (e : ∀ s, s ∈ L ↔ s ∈ L') : Hld m L' :=
  ⟨h.keys, fun t => by rw [h.row]; exact setS_eq fun s => by rw [mem_trF, mem_trF, e s], fun t => by rw [h.mem]; exact ⟨fun ⟨s, h1, h2⟩ => ⟨s, (e s).1 h1, h2⟩, fun ⟨s, h1, h2⟩ => ⟨s, (e s).2 h1, h2⟩⟩⟩
attribute [local irreducible] W AX Run RunD AStep AOp AOpX AStB AStH AStG Fits PCall GCall PostG Post Stop
end Go.Proofs.YtigenjeealkdlaaGreat
namespace Go.Proofs.YtigenjeealkdlaaGreat
open Go.RowKit Go.Exe
/-! ### records of any kind are refused or taken -/
/-- What any span that came in is. -/
structure SpR (s : Spn) : Prop where
  tr : I64 s.tr
  id : I64 s.id
  pa : I64 s.pa
  rev : I64 s.rev
  clk : I64 s.clk
  kd : I64 s.kd
  st : I64 s.st
  en : I64 s.en
  sv : s.sv.size ≤ 140737488355328
  ve : s.ve.size ≤ 140737488355328
  op : s.op.size ≤ 140737488355328
  ats : ∀ a ∈ s.ats, a.I
  lks : ∀ r ∈ s.lks, I64 r.1 ∧ I64 r.2
theorem SpR.I {s : Spn} (h : SpR s) (h1 : s.ats.length ≤ 1000) (h2 : s.lks.length ≤ 1000) : SpI s := ⟨h.tr, h.id, h.pa, h.rev, h.clk, h.kd, h.st, h.en, h.sv, h.ve, h.op, h.ats, h.lks, h1, h2⟩
theorem SpR.str {s : Spn} (h : SpR s) : StrOk s := ⟨⟨h.sv, h.ve, h.op⟩, fun a ha => ⟨(h.ats a ha).2.1, (h.ats a ha).2.2⟩⟩
theorem chk_id {s : Spn} (h : chkS s = 0) : s.id ≠ 0 := by
  intro e
  have hb : badId s.id = true := by unfold badId; rw [e]; decide
  have hc : ckId s = true := by unfold ckId; rw [hb]; simp
  unfold chkS at h
  rw [hc] at h
  simp at h
attribute [local irreducible] W AX Run RunD AStep AOp AOpX AStB AStH AStG Fits PCall GCall PostG Post Stop
theorem valid_c (m : List Spn) (hm : ∀ s ∈ m, StrOk s) (hlen : m.length ≤ 1000000) : PCall Tryz.prog 47 [spsT m] (ft (.int .i64 (chkL m))) := by
  have c64 := fun s hs => check64_c s (hm s hs)
  clear hm
  refine PCall.intro (nt := 19) (rs := [.tmp 2]) Tryz.func47 rfl ⟨by kernel_rfl, by kernel_rfl, by kernel_rfl⟩ (by simp) ?_
  rintro ⟨P, w0, ok0, may, np, pblk⟩ rfl rfl
  repeat' (first | refine W.seq fun K hK => ?_ | refine W.block ?_ | ((first | refine wR ?_ | refine wD ?_ | refine W.skip ?_ | refine W.exit ?_ | refine W.ret (Post.ret ?_) | refine aP ?_ | refine aF ?_); simp only [go_sem, reduceCtorEq]) | refine wT ?_ | refine wF ?_ | refine wC (fun h => ?_) (fun h => ?_) | refine iK ?_ | refine aI2 ?_ | (refine hK _ ?_; clear hK K) | clear hK K)
  refine W.loopF (T := fun i : Nat => { t := [(0, spsT m), (3, ft (.int .i64 (i : Nat)))], h := [], nx := 0, ex := [], nt := 19 })
    (Inv := fun i => i ≤ m.length ∧ chkL m = chkL (m.drop i)) (μ := fun i => m.length - i) (x0 := 0) ?_ ⟨Nat.zero_le _, rfl⟩ ?_
  · refine Fits.fit [] [0, 3] 0 rfl rfl ?_
    simp only [go_sem]
    exact Fits.rfl
  rintro i ⟨hi, hinv⟩ KL hKL
  by_cases hlt : i < m.length
  · obtain ⟨s, hx, hs, hd⟩ := drop_at hlt
    have e1 : decide ((i : Int) < m.length) = true := by simp; omega
    have e2 : decide (i < m.length) = true := by simp; omega
    have hw := w64s i (by omega)
    have k64 := c64 s hs
    rw [hd, chkL] at hinv
    clear c64
    simp only [spT, spA, List.map] at k64
    cases hq : (chkS s != 0) with
    | true =>
      rw [hq, if_pos rfl] at hinv
      clear hKL
      repeat' (first | refine W.seq fun K hK => ?_ | refine W.block ?_ | ((first | refine wR ?_ | refine wD ?_ | refine W.skip ?_ | refine W.exit ?_ | refine W.ret (Post.ret ?_) | refine aP ?_ | refine aF ?_); simp only [go_sem, reduceCtorEq, List.getElem?_map, hx, spA, e1, e2, hq, List.length_map]) | refine wT ?_ | refine wF ?_ | refine wC (fun h => ?_) (fun h => ?_) | refine iK ?_ | refine aI2 ?_ | (refine hK _ ?_; clear hK K) | clear hK K)
      rw [hinv]
    | false =>
      rw [hq] at hinv
      simp only [Bool.false_eq_true, if_false] at hinv
      repeat' (first | refine W.seq fun K hK => ?_ | refine W.block ?_ | ((first | refine wR ?_ | refine wD ?_ | refine W.skip ?_ | refine W.exit ?_ | refine W.ret (Post.ret ?_) | refine aP ?_ | refine aF ?_); simp only [go_sem, reduceCtorEq, List.getElem?_map, hx, spA, e1, e2, hq, hw, List.length_map]) | refine wT ?_ | refine wF ?_ | refine wC (fun h => ?_) (fun h => ?_) | refine iK ?_ | refine aI2 ?_ | (refine hK _ ?_; clear hK K) | clear hK K)
      refine hKL.to (i + 1) ⟨by omega, hinv⟩ (by omega) ?_
      refine Fits.fit [] [0, 3] 0 rfl rfl ?_
      simp only [go_sem]
      exact Fits.rfl
  · obtain rfl : i = m.length := by omega
    have e1 : decide ((m.length : Int) < m.length) = false := by simp
    have h2 : chkL m = 0 := by rw [hinv, List.drop_of_length_le (Nat.le_refl _)]; rfl
    clear hKL c64
    repeat' (first | refine W.seq fun K hK => ?_ | refine W.block ?_ | ((first | refine wR ?_ | refine wD ?_ | refine W.skip ?_ | refine W.exit ?_ | refine W.ret (Post.ret ?_) | refine aP ?_ | refine aF ?_); simp only [go_sem, reduceCtorEq, e1, List.length_map]) | refine wT ?_ | refine wF ?_ | refine wC (fun h => ?_) (fun h => ?_) | refine iK ?_ | refine aI2 ?_ | (refine hK _ ?_; clear hK K) | clear hK K)
    rw [h2]
theorem refuses_c (c144 : SortC Tryz.prog 144 14) (c85 : SortI Tryz.prog 85) (g84 : GrowC Tryz.prog 84 3 1 8) (g122 : GrowC Tryz.prog 122 88 14 168) (l : List Fm) (m : List Spn) (hl : ∀ q ∈ l, FmOk q) (hm : ∀ s ∈ m, SpR s) : PCall Tryz.prog 10 [famT l, spsT m] (ft (.bool true)) := by
  have c12 := known_c c144 c85 g84 g122
  by_cases h3 : m.length ≤ 3
  · have e0 : decide ((m.length : Int) > 3) = false := by simp; omega
    have f1 := family_c l hl
    have cS : ∀ s ∈ m, s.ats.length ≤ 8 → s.lks.length ≤ 8 → PCall Tryz.prog 46 [spT s] (ft (.string (spanS s))) := fun s hs h1 h2 => span46_c s ((hm s hs).I (by omega) (by omega))
    refine PCall.intro (nt := 84) (rs := [.tmp 4]) Tryz.func10 rfl ⟨by kernel_rfl, by kernel_rfl, by kernel_rfl⟩ (by simp) ?_
    rintro ⟨P, w0, ok0, may, np, pblk⟩ rfl rfl
    repeat' (first | refine W.seq fun K hK => ?_ | refine W.block ?_ | ((first | refine wR ?_ | refine wD ?_ | refine W.skip ?_ | refine W.exit ?_ | refine W.ret (Post.ret ?_) | refine aP ?_ | refine aF ?_ | refine aL ?_ | refine aU (hnn := by simp only [go_sem, reduceCtorEq, e0, List.length_map]) ?_ | refine aM ?_ | refine aN ?_ | refine aR ?_); simp only [go_sem, reduceCtorEq, e0, List.length_map]) | refine wT ?_ | refine wF ?_ | refine wC (fun h => ?_) (fun h => ?_) | refine iK ?_ | refine aI2 ?_ | (refine hK _ ?_; clear hK K) | clear hK K)
    clear c12
    refine W.loopF (T := fun i : Nat => { t := [(0, famT l), (1, spsT m), (5, ft (.int .i64 (i : Nat)))], h := [], nx := 0, ex := [], nt := 84 })
      (Inv := fun i => i ≤ m.length ∧ ∀ j s, j < i → m[j]? = some s → s.ats.length ≤ 8 ∧ s.lks.length ≤ 8 ∧ (spanS s).size ≤ 2000) (μ := fun i => m.length - i) (x0 := 0) ?_ ⟨Nat.zero_le _, fun j s h => by omega⟩ ?_
    · refine Fits.fit [] [0, 1, 5] 0 rfl rfl ?_
      simp only [go_sem]
      exact Fits.rfl
    rintro i ⟨hi, hlo⟩ KL hKL
    by_cases hlt : i < m.length
    · obtain ⟨s, hx, hs, hd⟩ := drop_at hlt
      have e1 : decide ((i : Int) < m.length) = true := by simp; omega
      have e2 : decide (i < m.length) = true := by simp; omega
      have hw := w64s i (by omega)
      cases g1 : decide ((s.ats.length : Int) > 8) with
      | true =>
        clear hKL cS
        repeat' (first | refine W.seq fun K hK => ?_ | refine W.block ?_ | ((first | refine wR ?_ | refine wD ?_ | refine W.skip ?_ | refine W.exit ?_ | refine W.ret (Post.ret ?_) | refine aP ?_ | refine aF ?_ | refine aL ?_ | refine aU (hnn := by simp only [go_sem, reduceCtorEq, List.getElem?_map, hx, spA, e1, e2, g1, List.length_map]) ?_ | refine aM ?_ | refine aN ?_ | refine aR ?_); simp only [go_sem, reduceCtorEq, List.getElem?_map, hx, spA, e1, e2, g1, List.length_map]) | refine wT ?_ | refine wF ?_ | refine wC (fun h => ?_) (fun h => ?_) | refine iK ?_ | refine aI2 ?_ | (refine hK _ ?_; clear hK K) | clear hK K)
      | false =>
        have h1 : s.ats.length ≤ 8 := by have := of_decide_eq_false g1; omega
        cases g2 : decide ((s.lks.length : Int) > 8) with
        | true =>
          clear hKL cS
          repeat' (first | refine W.seq fun K hK => ?_ | refine W.block ?_ | ((first | refine wR ?_ | refine wD ?_ | refine W.skip ?_ | refine W.exit ?_ | refine W.ret (Post.ret ?_) | refine aP ?_ | refine aF ?_ | refine aL ?_ | refine aU (hnn := by simp only [go_sem, reduceCtorEq, List.getElem?_map, hx, spA, e1, e2, g1, g2, List.length_map]) ?_ | refine aM ?_ | refine aN ?_ | refine aR ?_); simp only [go_sem, reduceCtorEq, List.getElem?_map, hx, spA, e1, e2, g1, g2, List.length_map]) | refine wT ?_ | refine wF ?_ | refine wC (fun h => ?_) (fun h => ?_) | refine iK ?_ | refine aI2 ?_ | (refine hK _ ?_; clear hK K) | clear hK K)
        | false =>
          have h2 : s.lks.length ≤ 8 := by have := of_decide_eq_false g2; omega
          have k46 := cS s hs h1 h2
          simp only [spT, spA, List.map] at k46
          cases g3 : decide (((spanS s).size : Int) > 2000) with
          | true =>
            clear hKL cS
            repeat' (first | refine W.seq fun K hK => ?_ | refine W.block ?_ | ((first | refine wR ?_ | refine wD ?_ | refine W.skip ?_ | refine W.exit ?_ | refine W.ret (Post.ret ?_) | refine aP ?_ | refine aF ?_ | refine aL ?_ | refine aU (hnn := by simp only [go_sem, reduceCtorEq, List.getElem?_map, hx, spA, e1, e2, g1, g2, g3, List.length_map]) ?_ | refine aM ?_ | refine aN ?_ | refine aR ?_); simp only [go_sem, reduceCtorEq, List.getElem?_map, hx, spA, e1, e2, g1, g2, g3, List.length_map]) | refine wT ?_ | refine wF ?_ | refine wC (fun h => ?_) (fun h => ?_) | refine iK ?_ | refine aI2 ?_ | (refine hK _ ?_; clear hK K) | clear hK K)
          | false =>
            have h4 : (spanS s).size ≤ 2000 := by have := of_decide_eq_false g3; omega
            clear cS
            repeat' (first | refine W.seq fun K hK => ?_ | refine W.block ?_ | ((first | refine wR ?_ | refine wD ?_ | refine W.skip ?_ | refine W.exit ?_ | refine W.ret (Post.ret ?_) | refine aP ?_ | refine aF ?_ | refine aL ?_ | refine aU (hnn := by simp only [go_sem, reduceCtorEq, List.getElem?_map, hx, spA, e1, e2, g1, g2, g3, hw, List.length_map]) ?_ | refine aM ?_ | refine aN ?_ | refine aR ?_); simp only [go_sem, reduceCtorEq, List.getElem?_map, hx, spA, e1, e2, g1, g2, g3, hw, List.length_map]) | refine wT ?_ | refine wF ?_ | refine wC (fun h => ?_) (fun h => ?_) | refine iK ?_ | refine aI2 ?_ | (refine hK _ ?_; clear hK K) | clear hK K)
            refine hKL.to (i + 1) ⟨by omega, fun j s' hj hs' => ?_⟩ (by omega) ?_
            · by_cases e : j = i
              · subst e
                rw [hx] at hs'
                cases hs'
                exact ⟨h1, h2, h4⟩
              · exact hlo j s' (by omega) hs'
            · refine Fits.fit [] [0, 1, 5] 0 rfl rfl ?_
              simp only [go_sem]
              exact Fits.rfl
    · obtain rfl : i = m.length := by omega
      have e1 : decide ((m.length : Int) < m.length) = false := by simp
      have hall : ∀ s ∈ m, s.ats.length ≤ 8 ∧ s.lks.length ≤ 8 ∧ (spanS s).size ≤ 2000 := fun s hs => by
        obtain ⟨j, hj⟩ := List.getElem?_of_mem hs
        exact hlo j s (List.getElem?_eq_some_iff.1 hj).1 hj
      clear hKL hlo cS
      have ll := famL_len l
      have lZ := famL_Z l
      have l0 := famL_id0 l
      have mS : ∀ s ∈ m, StrOk s := fun s hs => (hm s hs).str
      have mZ : ∀ s ∈ m, SpZ s := fun s hs => ⟨(hm s hs).I (by have := hall s hs; omega) (by have := hall s hs; omega), by have := hall s hs; omega⟩
      have c47 := valid_c m mS (by omega)
      have A1 := add_c c144 c85 g122 [] (famL l) 0 (fam_okL l) (fam_chkL l) (fun s hs => (fam_I l s hs).1) (by simp) (famB l 0 (by decide))
      have h1 := addF_hld hld_nil (famL l)
      rw [List.nil_append] at h1
      generalize addF [] (famL l) = x1 at *
      obtain ⟨mx, ox⟩ := x1
      dsimp only at A1 h1
      have G1 := agrees_c c144 c85 g84 h1 lZ l0 (by omega)
      unfold asmH at G1
      have n3 : (((0 : Nat) : Int) == 0) = true := by decide
      have nq : (chkL m != chkL m) = false := by simp
      repeat' (first | refine W.stop (id := 9) ?_ | refine W.seq fun K hK => ?_ | refine W.block ?_ | ((first | refine wR ?_ | refine wD ?_ | refine W.skip ?_ | refine W.exit ?_ | refine W.ret (Post.ret ?_) | refine aP ?_ | refine aF ?_ | refine aL ?_ | refine aU (hnn := by simp only [go_sem, reduceCtorEq, e1, List.length_map]) ?_ | refine aM ?_ | refine aN ?_ | refine aR ?_); simp only [go_sem, reduceCtorEq, e1, List.length_map]) | refine wT ?_ | refine wF ?_ | refine wC (fun h => ?_) (fun h => ?_) | refine iK ?_ | refine aI2 ?_ | (refine hK _ ?_; clear hK K) | clear hK K)
      refine Stop.out ?_
      refine W.regE ?_
      refine ⟨rfl, OpE.gcallN 100 rfl rfl new_c rfl (fun k hk hu => by simp [St.used] at hu; omega) ?_⟩
      simp only [go_sem]
      refine ⟨rfl, OpE.ofAOp 200 (by simp [St.used]) ?_⟩
      simp only [go_sem]
      refine ⟨_, Fits.fit [(101, 0), (100, 1)] [1, 6, 7] 2 rfl rfl Fits.rfl, ?_⟩
      simp only [go_sem, rnEs_rcE]
      repeat' (first | refine W.seq fun K hK => ?_ | refine W.block ?_ | ((first | refine wR ?_ | refine wD ?_ | refine W.skip ?_ | refine W.exit ?_ | refine W.ret (Post.ret ?_) | refine aP ?_ | refine aF ?_ | refine aL ?_ | refine aU ?_ | refine aM ?_ | refine aN ?_ | refine aR ?_); simp only [go_sem, reduceCtorEq]) | refine wT ?_ | refine wF ?_ | refine wC (fun h => ?_) (fun h => ?_) | refine iK ?_ | refine aI2 ?_ | (refine hK _ ?_; clear hK K) | clear hK K)
      refine AX.gcall [0, 1] rfl rfl (A1) (by simp only [go_sem, reduceCtorEq, rnEs_rcE]) (by simp only [go_sem, reduceCtorEq, rnEs_rcE]) rfl rfl (by simp only [go_sem, Obj.owns]) rfl (by simp only [go_sem, Obj.owns]) rfl rfl ?_
      simp only [go_sem, reduceCtorEq, rnEs_rcE]
      clear A1 f1
      by_cases hq : chkL m = 0
      · have A2 := add_c c144 c85 g122 mx m (famL l).length mS hq (fun s hs => (hm s hs).tr) (row_le h1) (by
          have : (m.length + 1) * m.length ≤ 4 * 3 := Nat.mul_le_mul (by omega) h3
          omega)
        have h2 := addF_hld h1 m
        generalize addF mx m = x2 at *
        obtain ⟨mx2, ox2⟩ := x2
        dsimp only at A2 h2
        have G2 := agrees_c c144 c85 g84 h2 (fun s hs => (List.mem_append.1 hs).elim (lZ s) (mZ s)) (fun s hs => (List.mem_append.1 hs).elim (l0 s) fun h => chk_id (chkL_0 hq s h)) (by rw [List.length_append]; omega)
        unfold asmH at G2
        rw [hq] at c47 nq
        have n0 : ((0 : Int) != 0) = false := by decide
        have b1 : (famL l).length * 168 ≤ 140737488355328 := by omega
        have b2 : ((famL l).length + m.length) * 168 ≤ 140737488355328 := by omega
        have hrow : imR ((famL l).map spA) ++ imR (m.map spA) = imR ((famL l ++ m).map spA) := by simp [imR]
        clear c144 c85 g84 g122 hl hm hall lZ l0 mS mZ h1 h2 G1
        repeat' (first | refine W.seq fun K hK => ?_ | refine W.block ?_ | ((first | refine wR ?_ | refine wD ?_ | refine W.skip ?_ | refine W.exit ?_ | refine W.ret (Post.ret ?_) | refine aP ?_ | refine aF ?_ | refine aL ?_ | refine aU ?_ | refine aM ?_ | refine aN ?_ | refine aR ?_); simp only [go_sem, reduceCtorEq]) | refine wT ?_ | refine wF ?_ | refine wC (fun h => ?_) (fun h => ?_) | refine iK ?_ | refine aI2 ?_ | (refine hK _ ?_; clear hK K) | clear hK K)
        refine AX.gcall [0, 1] rfl rfl (A2) (by simp only [go_sem, reduceCtorEq, rnEs_rcE]) (by simp only [go_sem, reduceCtorEq, rnEs_rcE]) rfl rfl (by simp only [go_sem, Obj.owns]) rfl (by simp only [go_sem, Obj.owns]) rfl rfl ?_
        simp only [go_sem, reduceCtorEq, rnEs_rcE]
        clear A2
        repeat' (first | refine W.stop (id := 17) ?_ | refine W.seq fun K hK => ?_ | refine W.block ?_ | ((first | refine wR ?_ | refine wD ?_ | refine W.skip ?_ | refine W.exit ?_ | refine W.ret (Post.ret ?_) | refine aP ?_ | refine aF ?_ | refine aL ?_ | refine aU (hnn := by simp only [go_sem, reduceCtorEq, n0]) ?_ | refine aM ?_ | refine aN ?_ | refine aR ?_); simp only [go_sem, reduceCtorEq, n0]) | refine wT ?_ | refine wF ?_ | refine wC (fun h => ?_) (fun h => ?_) | refine iK ?_ | refine aI2 ?_ | (refine hK _ ?_; clear hK K) | clear hK K)
        refine Stop.out ?_
        refine W.fits (s' := { t := [(1, spsT m), (6, spsT (famL l)), (7, .c (.ptr 0 0))], h := [(0, .box 115 [.mp 1]), (1, .map 3 (rcE mx2))], nx := 2, ex := [], nt := 84 }) (Fits.fit [(0, 0), (1, 1)] [1, 6, 7] 2 rfl rfl (by simp only [go_sem, rnEs_rcE]; exact Fits.rfl)) ?_
        refine W.regE ?_
        refine ⟨rfl, OpE.ofAOp 300 (by simp [St.used]) ?_⟩
        simp only [go_sem]
        refine ⟨rfl, OpE.ofAOp 301 (by simp [St.used]) ?_⟩
        simp only [go_sem]
        refine ⟨rfl, OpE.ofAOp 302 (by simp [St.used]) ?_⟩
        simp only [go_sem]
        refine ⟨rfl, OpE.ofAOp 303 (by simp [St.used]) ?_⟩
        simp only [go_sem, b1, List.length_map, imR_len]
        refine ⟨rfl, OpE.ofAOp 304 (by simp [St.used]) ?_⟩
        simp only [go_sem]
        refine ⟨rfl, OpE.ofAOp 305 (by simp [St.used]) ?_⟩
        simp only [go_sem, b2, hrow, List.length_map, imR_len]
        refine RunE.fits (s' := { t := [(77, .c (.ptr 0 0)), (82, spsT (famL l ++ m))], h := [(0, .box 115 [.mp 1]), (1, .map 3 (rcE mx2))], nx := 2, ex := [], nt := 84 }) (Fits.freeze 305 rfl (unim_im _) (Fits.seeT 82 305 rfl (.inl rfl) rfl (Fits.fit [(0, 0), (1, 1)] [77, 82] 2 rfl rfl (by simp only [go_sem, rnEs_rcE]; exact Fits.rfl)))) ?_
        refine ⟨rfl, OpE.gcall 400 [0, 1] rfl rfl (GCall.toE G2) rfl (by simp only [go_sem, rnEs_rcE]) rfl rfl rfl rfl (fun _ _ => rfl) rfl rfl (by simp [St.used]) fun _ _ => ?_⟩
        simp only [go_sem, rnEs_rcE]
        refine ⟨rfl, OpE.ofAOp 401 (by simp [St.used]) ?_⟩
        simp only [go_sem]
        refine ⟨_, Fits.fit [] [4] 0 rfl rfl Fits.rfl, ?_⟩
        simp only [go_sem]
        repeat' (first | refine W.seq fun K hK => ?_ | refine W.block ?_ | ((first | refine wR ?_ | refine wD ?_ | refine W.skip ?_ | refine W.exit ?_ | refine W.ret (Post.ret ?_) | refine aP ?_ | refine aF ?_ | refine aL ?_ | refine aU ?_ | refine aM ?_ | refine aN ?_ | refine aR ?_); simp only [go_sem, reduceCtorEq]) | refine wT ?_ | refine wF ?_ | refine wC (fun h => ?_) (fun h => ?_) | refine iK ?_ | refine aI2 ?_ | (refine hK _ ?_; clear hK K) | clear hK K)
      · have A2 := add_e mx m mS hq
        have n0 : (chkL m != 0) = true := by simpa using hq
        clear c144 c85 g84 g122 hl hm hall lZ l0 mS mZ h1
        repeat' (first | refine W.seq fun K hK => ?_ | refine W.block ?_ | ((first | refine wR ?_ | refine wD ?_ | refine W.skip ?_ | refine W.exit ?_ | refine W.ret (Post.ret ?_) | refine aP ?_ | refine aF ?_ | refine aL ?_ | refine aU ?_ | refine aM ?_ | refine aN ?_ | refine aR ?_); simp only [go_sem, reduceCtorEq]) | refine wT ?_ | refine wF ?_ | refine wC (fun h => ?_) (fun h => ?_) | refine iK ?_ | refine aI2 ?_ | (refine hK _ ?_; clear hK K) | clear hK K)
        refine AX.gcall [0, 1] rfl rfl (A2) (by simp only [go_sem, reduceCtorEq, rnEs_rcE]) (by simp only [go_sem, reduceCtorEq, rnEs_rcE]) rfl rfl (by simp only [go_sem, Obj.owns]) rfl (by simp only [go_sem, Obj.owns]) rfl rfl ?_
        simp only [go_sem, reduceCtorEq, rnEs_rcE]
        clear A2
        repeat' (first | refine W.seq fun K hK => ?_ | refine W.block ?_ | ((first | refine wR ?_ | refine wD ?_ | refine W.skip ?_ | refine W.exit ?_ | refine W.ret (Post.ret ?_) | refine aP ?_ | refine aF ?_ | refine aL ?_ | refine aU (hnn := by simp only [go_sem, reduceCtorEq, n0, nq, n3]) ?_ | refine aM ?_ | refine aN ?_ | refine aR ?_); simp only [go_sem, reduceCtorEq, n0, nq, n3]) | refine wT ?_ | refine wF ?_ | refine wC (fun h => ?_) (fun h => ?_) | refine iK ?_ | refine aI2 ?_ | (refine hK _ ?_; clear hK K) | clear hK K)
        refine AX.gcall [0, 1] rfl rfl (G1) (by simp only [go_sem, reduceCtorEq, rnEs_rcE]) (by simp only [go_sem, reduceCtorEq, rnEs_rcE]) rfl rfl (by simp only [go_sem, Obj.owns]) rfl (by simp only [go_sem, Obj.owns]) rfl rfl ?_
        simp only [go_sem, reduceCtorEq, rnEs_rcE]
        repeat' (first | refine W.seq fun K hK => ?_ | refine W.block ?_ | ((first | refine wR ?_ | refine wD ?_ | refine W.skip ?_ | refine W.exit ?_ | refine W.ret (Post.ret ?_) | refine aP ?_ | refine aF ?_ | refine aL ?_ | refine aU ?_ | refine aM ?_ | refine aN ?_ | refine aR ?_); simp only [go_sem, reduceCtorEq]) | refine wT ?_ | refine wF ?_ | refine wC (fun h => ?_) (fun h => ?_) | refine iK ?_ | refine aI2 ?_ | (refine hK _ ?_; clear hK K) | clear hK K)
  · have e0 : decide ((m.length : Int) > 3) = true := by simp; omega
    refine PCall.intro (nt := 84) (rs := [.tmp 4]) Tryz.func10 rfl ⟨by kernel_rfl, by kernel_rfl, by kernel_rfl⟩ (by simp) ?_
    rintro ⟨P, w0, ok0, may, np, pblk⟩ rfl rfl
    repeat' (first | refine W.seq fun K hK => ?_ | refine W.block ?_ | ((first | refine wR ?_ | refine wD ?_ | refine W.skip ?_ | refine W.exit ?_ | refine W.ret (Post.ret ?_) | refine aP ?_ | refine aF ?_ | refine aL ?_ | refine aU (hnn := by simp only [go_sem, reduceCtorEq, e0, List.length_map]) ?_ | refine aM ?_ | refine aN ?_ | refine aR ?_); simp only [go_sem, reduceCtorEq, e0, List.length_map]) | refine wT ?_ | refine wF ?_ | refine wC (fun h => ?_) (fun h => ?_) | refine iK ?_ | refine aI2 ?_ | (refine hK _ ?_; clear hK K) | clear hK K)
end Go.Proofs.YtigenjeealkdlaaGreat
namespace Go.Proofs.YtigenjeealkdlaaGreat
open Go.ChangeShapes Go.WideShapes Go.ChangeAt Go.RowKit Go.Exe
theorem Tryz.own : ownKnob Tryz.prog.godebug = none := by kernel_rfl
theorem Tryz.laidOut : laidOutB Tryz.prog = true := by kernel_rfl
theorem under4 : Tryz.prog.underlying 4 = some .bool := by kernel_rfl
theorem el23 : EL Tryz.prog 23 = some 93 := by kernel_rfl
/-! ### families that came in -/
theorem fm_in {f : Nat} {xs : List AV} (h : Typ Tryz.prog (f + 2) 93 xs) : ∃ q : Fm, FmOk q ∧ xs = famA q := by
  obtain ⟨offs, rfl, hol, ho⟩ := Typ.arr (n := 4) (e := 5) (by kernel_rfl) h
  match offs, hol with
  | [q1, q2, q3, q4], _ =>
    obtain ⟨a, rfl, ha⟩ := Typ.u8 tU5 (ho q1 (by simp))
    obtain ⟨b, rfl, hb⟩ := Typ.u8 tU5 (ho q2 (by simp))
    obtain ⟨c, rfl, hc⟩ := Typ.u8 tU5 (ho q3 (by simp))
    obtain ⟨d, rfl, hd⟩ := Typ.u8 tU5 (ho q4 (by simp))
    exact ⟨(a, b, c, d), ⟨ha, hb, hc, hd⟩, rfl⟩
theorem fam_in {f : Nat} {x : AV} (h : Typ Tryz.prog (f + 3) 23 [x]) : ∃ l : List Fm, (∀ q ∈ l, FmOk q) ∧ x = .sl 93 (l.map famA) := by
  obtain ⟨rows, hx, hr⟩ := Typ.sl el23 h
  cases hx
  obtain ⟨l, hl, rfl⟩ := rows_of (ok := FmOk) (enc := famA) fun r hr' => fm_in (hr r hr')
  exact ⟨l, hl, rfl⟩
end Go.Proofs.YtigenjeealkdlaaGreat
namespace Go.Proofs.YtigenjeealkdlaaGreat
open Go.ChangeShapes Go.WideShapes Go.ChangeAt Go.RowKit Go.Exe
/-! ### spans that came in -/
theorem i64_in {f : Nat} {xs : List AV} (h : Typ Tryz.prog (f + 1) 3 xs) : ∃ n : Int, I64 n ∧ xs = [.flat (.int .i64 n)] := by
  obtain ⟨n, rfl, h1, h2⟩ := Typ.int tU3 h
  simp [IntKind.min, IntKind.max, IntKind.signed, IntKind.bits] at h1 h2
  exact ⟨n, ⟨h1, h2⟩, rfl⟩
theorem str_in {f : Nat} {xs : List AV} (h : Typ Tryz.prog (f + 1) 9 xs) : ∃ s : ByteArray, s.size ≤ 140737488355328 ∧ xs = [.flat (.string s)] := by
  obtain ⟨s, rfl, _, h1⟩ := Typ.str tU9 h
  exact ⟨s, h1, rfl⟩
theorem val_in {f : Nat} {xs : List AV} (h : Typ Tryz.prog (f + 2) 132 xs) : ∃ (k : Int) (t : ByteArray) (n : Int), I64 k ∧ t.size ≤ 140737488355328 ∧ I64 n ∧ xs = [.flat (.int .i64 k), .flat (.string t), .flat (.int .i64 n)] := by
  obtain ⟨parts, rfl, hp⟩ := Typ.st (ts := [3, 9, 3]) (by kernel_rfl) h
  match parts, hp with
  | [a0, a1, a2], hp =>
    simp only [Al.cons_iff] at hp
    obtain ⟨h0, h1, h2, _⟩ := hp
    obtain ⟨k, hk, rfl⟩ := i64_in h0
    obtain ⟨t, ht, rfl⟩ := str_in h1
    obtain ⟨n, hn, rfl⟩ := i64_in h2
    exact ⟨k, t, n, hk, ht, hn, rfl⟩
theorem att_in {f : Nat} {xs : List AV} (h : Typ Tryz.prog (f + 3) 134 xs) : ∃ a : Att, a.I ∧ xs = attA a := by
  obtain ⟨parts, rfl, hp⟩ := Typ.st (ts := [9, 132]) (by kernel_rfl) h
  match parts, hp with
  | [a0, a1], hp =>
    simp only [Al.cons_iff] at hp
    obtain ⟨h0, h1, _⟩ := hp
    obtain ⟨y, hy, rfl⟩ := str_in h0
    obtain ⟨k, t, n, hk, ht, hn, rfl⟩ := val_in h1
    exact ⟨⟨y, k, t, n⟩, ⟨⟨hk, hn⟩, hy, ht⟩, rfl⟩
theorem ref_in {f : Nat} {xs : List AV} (h : Typ Tryz.prog (f + 2) 137 xs) : ∃ r : Rf, (I64 r.1 ∧ I64 r.2) ∧ xs = refA r := by
  obtain ⟨parts, rfl, hp⟩ := Typ.st (ts := [3, 3]) (by kernel_rfl) h
  match parts, hp with
  | [a0, a1], hp =>
    simp only [Al.cons_iff] at hp
    obtain ⟨h0, h1, _⟩ := hp
    obtain ⟨k, hk, rfl⟩ := i64_in h0
    obtain ⟨n, hn, rfl⟩ := i64_in h1
    exact ⟨(k, n), ⟨hk, hn⟩, rfl⟩
theorem el85 : EL Tryz.prog 85 = some 134 := by kernel_rfl
theorem el86 : EL Tryz.prog 86 = some 137 := by kernel_rfl
theorem spn_in {f : Nat} {xs : List AV} (h : Typ Tryz.prog (f + 5) 88 xs) : ∃ s : Spn, SpR s ∧ xs = spA s := by
  obtain ⟨parts, rfl, hp⟩ := Typ.st (ts := [3, 3, 3, 3, 3, 3, 9, 9, 9, 3, 3, 4, 85, 86]) (by kernel_rfl) h
  match parts, hp with
  | [a0, a1, a2, a3, a4, a5, a6, a7, a8, a9, a10, a11, a12, a13], hp =>
    simp only [Al.cons_iff] at hp
    obtain ⟨h0, h1, h2, h3, h4, h5, h6, h7, h8, h9, h10, h11, h12, h13, _⟩ := hp
    obtain ⟨n0, b0, rfl⟩ := i64_in h0
    obtain ⟨n1, b1, rfl⟩ := i64_in h1
    obtain ⟨n2, b2, rfl⟩ := i64_in h2
    obtain ⟨n3, b3, rfl⟩ := i64_in h3
    obtain ⟨n4, b4, rfl⟩ := i64_in h4
    obtain ⟨n5, b5, rfl⟩ := i64_in h5
    obtain ⟨n6, b6, rfl⟩ := str_in h6
    obtain ⟨n7, b7, rfl⟩ := str_in h7
    obtain ⟨n8, b8, rfl⟩ := str_in h8
    obtain ⟨n9, b9, rfl⟩ := i64_in h9
    obtain ⟨n10, b10, rfl⟩ := i64_in h10
    obtain ⟨n11, rfl⟩ := Typ.bool under4 h11
    obtain ⟨rows, rfl, hr⟩ := Typ.sl el85 h12
    obtain ⟨al, has, rfl⟩ := rows_of (ok := Att.I) (enc := attA) fun r hr' => att_in (hr r hr')
    obtain ⟨rows2, rfl, hr2⟩ := Typ.sl el86 h13
    obtain ⟨rs, hrs, rfl⟩ := rows_of (ok := fun r : Rf => I64 r.1 ∧ I64 r.2) (enc := refA) fun r hr' => ref_in (f := f + 1) (hr2 r hr')
    exact ⟨⟨n0, n1, n2, n3, n4, n5, n6, n7, n8, n9, n10, n11, al, rs⟩, ⟨b0, b1, b2, b3, b4, b5, b9, b10, b6, b7, b8, has, hrs⟩, rfl⟩
theorem el30 : EL Tryz.prog 30 = some 88 := by kernel_rfl
theorem spns_in {f : Nat} {x : AV} (h : Typ Tryz.prog (f + 6) 30 [x]) : ∃ l : List Spn, (∀ s ∈ l, SpR s) ∧ x = .sl 88 (l.map spA) := by
  obtain ⟨rows, hx, hr⟩ := Typ.sl el30 h
  cases hx
  obtain ⟨l, hl, rfl⟩ := rows_of (ok := SpR) (enc := spA) fun r hr' => spn_in (hr r hr')
  exact ⟨l, hl, rfl⟩
end Go.Proofs.YtigenjeealkdlaaGreat
namespace Go.Proofs.YtigenjeealkdlaaGreat
open Go.ChangeShapes Go.WideShapes Go.ChangeAt Go.RowKit Go.Exe

def refusesC : Prop := ∀ (x0 : AV) (x1 : AV), Typ Tryz.prog 6 23 [x0] → Typ Tryz.prog 6 30 [x1] → PCall Tryz.prog 10 [.c (.im x0), .c (.im x1)] (ft (.bool true))
theorem refuses_lifted (hc : refusesC) (os : Os) (started : os.Started) (H : Type) (enc : TypeId × Value → H) :
    ReturnsInHanded {} Tryz.checked os 10 .any (Rows.assemblyRefusesSpec.pre6 enc Tryz.prog Tryz.f10 Rows.assemblyRefusesRow.domain false) (Rows.assemblyRefusesSpec.post enc Tryz.prog Tryz.f10 false Rows.assemblyRefusesRow.fresh Rows.assemblyRefusesRow.handsOn Rows.assemblyRefusesRow.again) := by
  refine returnsInHanded_of_change_sized (C := Tryz.checked) Tryz.own started (by kernel_rfl) Tryz.func10
    (ChangeSpec.witness6 (enc := enc) (C := Tryz.checked) false ⟨#[], #[.slice none 0 0, .slice none 0 0], []⟩ 8 (by kernel_rfl) (by kernel_rfl) (by kernel_rfl) (by kernel_rfl)) ?_
  intro W base args ds gs before hval0 hW _ hsz0 _
  have hsz : (DataW.weightsEach Tryz.prog (Tryz.f10.params.toList ++ Rows.assemblyRefusesSpec.plain.varTypes Tryz.prog) (ds ++ gs)).all (· ≤ reachBytes) = true := hsz0
  clear hsz0
  have hval : ∀ (j : Nat) t v, Tryz.f10.params[j]? = some t → args[j]? = some v → Value.okWide Tryz.prog W .any base t v := hval0
  have hW' := hW
  obtain ⟨p, q, hA0, hV, rfl, hfz, hnd⟩ := hW
  have hA : DataW.TrodAll enc Tryz.prog W 0 (fun _ => true) true Tryz.f10.params.toList args.toList ds p := hA0
  rw [Tryz.params10] at hA hval hsz
  obtain ⟨v0, v1, d0, d1, p0, p1, rfl, rfl, rfl, h0, h1⟩ := trodAll_two hA
  obtain ⟨rfl, rfl⟩ := trodVars_none hV
  clear hA0 hval0
  simp only [List.append_nil] at hW'
  obtain ⟨x0, r0, y0⟩ := arg_c (j := 0) 6 (by kernel_rfl) (by obtain ⟨z1, z2, z3, hz⟩ := okWide_slice rfl (hval 0 23 v0 rfl rfl); rw [hz]; rfl) h0 hsz rfl rfl
  obtain ⟨x1, r1, y1⟩ := arg_c (j := 1) 6 (by kernel_rfl) (by obtain ⟨z1, z2, z3, hz⟩ := okWide_slice rfl (hval 1 30 v1 rfl rfl); rw [hz]; rfl) h1 hsz rfl rfl
  have hlt : ∀ x ∈ p0 ++ p1, x.block < W.heap.size := fun x hx => by simpa using hW'.lt x hx
  have hargs : ∀ (W' : World), Below W.heap.size W W' → DataW.TrodAll enc Tryz.prog W' 0 (fun b => decide (b < W.heap.size)) true Tryz.f10.params.toList [v0, v1] [d0, d1] (p0 ++ p1) := fun W' hn => by
    have k23 : ∀ {v d ps}, DataW.Trod enc Tryz.prog W 0 (fun _ => true) true 23 v d ps → (∀ x ∈ ps, x.block < W.heap.size) → DataW.Trod enc Tryz.prog W' 0 (fun b => decide (b < W.heap.size)) true 23 v d ps :=
      fun h hl => Below.trod Tryz.laidOut (by kernel_rfl) (of_decide_eq_true (by kernel_rfl)) h hn hl
    have k30 : ∀ {v d ps}, DataW.Trod enc Tryz.prog W 0 (fun _ => true) true 30 v d ps → (∀ x ∈ ps, x.block < W.heap.size) → DataW.Trod enc Tryz.prog W' 0 (fun b => decide (b < W.heap.size)) true 30 v d ps :=
      fun h hl => Below.trod Tryz.laidOut (by kernel_rfl) (of_decide_eq_true (by kernel_rfl)) h hn hl
    rw [Tryz.params10]
    exact trodAll_mk2 (k23 h0 fun x hx => hlt x (by simp [hx])) (k30 h1 fun x hx => hlt x (by simp [hx]))
  have hcall := (hc x0 x1 y0 y1).2 (fun _ => True) W [v0, v1] (Al.cons r0 (Al.cons r1 Al.nil))
  refine hcall.mono fun e W' ⟨v, he, ⟨hB, _⟩, hr⟩ => ?_
  subst he
  obtain rfl : v = .bool true := RepA.flat_eq hr
  refine ⟨_, rfl, _, _, _, [], p0 ++ p1, [], hW', ?_, ?_, ?_, hB.frame _, fun h => by cases h⟩
  · exact trodAll_mk1 (shut_bool under4 true)
  · exact hargs W' hB
  · rfl
theorem refuses_holds (hc : refusesC) : Rows.AssemblyRefusesSaid :=
  OpenClaim.holds_of_wide 10 Tryz.f10 rfl rfl rfl rfl rfl rfl rfl ⟨rfl, rfl, rfl, rfl, rfl⟩ rfl rfl rfl rfl rfl (by kernel_rfl) Tryz.func10 (by kernel_rfl)
    (of_decide_eq_true (by kernel_rfl)) (by unfold Func.isWrapper; rw [if_neg (by decide +kernel)]; exact ⟨rfl, rfl⟩)
    (fun os started H enc _ => refuses_lifted hc os started H enc)
end Go.Proofs.YtigenjeealkdlaaGreat
namespace Go.Proofs.YtigenjeealkdlaaGreat
open Go.RowKit Go.Exe
theorem ytigenjeealkdlaagreat_assemblyRefuses_holds : Rows.AssemblyRefusesSaid := refuses_holds fun x0 x1 h0 h1 => by
  obtain ⟨l, hl, rfl⟩ := fam_in (f := 3) h0
  obtain ⟨m, hm, rfl⟩ := spns_in (f := 0) h1
  exact refuses_c sort144_c sort85_c grow84_c grow122_c l m hl hm
end Go.Proofs.YtigenjeealkdlaaGreat
