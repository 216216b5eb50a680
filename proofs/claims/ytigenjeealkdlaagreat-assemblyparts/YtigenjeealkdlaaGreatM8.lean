/-
  AssemblyParts: at every family the law answers true: every span is in exactly one of the subtrees of the roots and the orphans, or it is cyclic.
-/
import Derived.Test.YtigenjeealkdlaaGreatM7
import Derived.Shelf.SlSortCmp.WholeK
import Derived.Shelf.SlSortCmp.NoneTotal
import Derived.Test.YtigenjeealkdlaaGreatProg
import Derived.Shelf.SlLaysF0
import Derived.Shelf.SlGeneric
import Derived.Ground.SlsfProg
import Derived.Shelf.Spec.SlicesGrow
import Derived.Ground.Names8Prog
import Derived.Shelf.SortM.Plain
import Derived.Shelf.SortM.SortNone
import Derived.Ground.SlgmProg
import Derived.Test.YtigenjeealkdlaaGreatM3
import Derived.Test.YtigenjeealkdlaaGreatRows
set_option linter.unusedVariables false
set_option linter.unusedSimpArgs false
set_option maxHeartbeats 8000000
set_option maxRecDepth 100000
namespace Go.Proofs.YtigenjeealkdlaaGreat
open Go.RowKit Go.Exe
/-! ### ref05.Sorted -/
def posU (out : List Int) (x : Int) : Nat := (out.takeWhile fun y => decide (y ≤ x)).length
def insU (out : List Int) (x : Int) : List Int := if x ∈ out then out else out.take (posU out x) ++ [x] ++ out.drop (posU out x)
def sortU (l : List Int) : List Int := l.foldl insU []
theorem posU_is {x : Int} : ∀ {out : List Int} {i : Nat}, i ≤ out.length → (∀ k y, k < i → out[k]? = some y → y ≤ x) → (∀ y, out[i]? = some y → x < y) → posU out x = i
  | [], i, h, _, _ => by simp at h; subst h; rfl
  | y :: r, 0, _, _, h => by
    have := h y rfl
    simp [posU, this]
  | y :: r, i + 1, hi, h1, h2 => by
    have hy := h1 0 y (by omega) rfl
    have ih := posU_is (x := x) (out := r) (i := i) (by simpa using hi) (fun k z hk hz => h1 (k + 1) z (by omega) (by simpa using hz)) (fun z hz => h2 z (by simpa using hz))
    unfold posU at ih ⊢
    rw [List.takeWhile_cons, if_pos (by simpa using hy), List.length_cons, ih]
theorem mem_tw {α : Type} {p : α → Bool} : ∀ {l : List α} {y : α}, y ∈ l.takeWhile p → p y = true
  | z :: r, y, h => by
    rw [List.takeWhile_cons] at h
    split at h
    · rename_i hz
      rcases List.mem_cons.1 h with rfl | h
      · exact hz
      · exact mem_tw h
    · cases h
theorem head_dw {α : Type} {p : α → Bool} : ∀ {l r : List α} {z : α}, l.dropWhile p = z :: r → p z = false
  | y :: l, r, z, h => by
    rw [List.dropWhile_cons] at h
    split at h
    · exact head_dw h
    · rename_i hy
      cases h
      simpa using hy
theorem insU_mem {out : List Int} {x y : Int} : y ∈ insU out x ↔ y ∈ out ∨ y = x := by
  unfold insU
  split
  · rename_i h
    constructor
    · exact .inl
    · rintro (h2 | rfl)
      · exact h2
      · exact h
  · rw [List.mem_append, List.mem_append, List.mem_singleton]
    have : y ∈ out ↔ y ∈ out.take (posU out x) ∨ y ∈ out.drop (posU out x) := by rw [← List.mem_append, List.take_append_drop]
    rw [this]
    constructor
    · rintro ((h | h) | h)
      · exact .inl (.inl h)
      · exact .inr h
      · exact .inl (.inr h)
    · rintro ((h | h) | h)
      · exact .inl (.inl h)
      · exact .inr h
      · exact .inl (.inr h)
theorem insU_srt {out : List Int} {x : Int} (h : out.Pairwise (· < ·)) : (insU out x).Pairwise (· < ·) := by
  unfold insU
  split
  · exact h
  · rename_i hx
    have ht : out.take (posU out x) = out.takeWhile fun y => decide (y ≤ x) := by
      have h1 : (out.takeWhile fun y => decide (y ≤ x)) <+: out := List.takeWhile_prefix _
      unfold posU
      exact (List.prefix_iff_eq_take.1 h1).symm
    have hd : out.drop (posU out x) = out.dropWhile fun y => decide (y ≤ x) := by
      have h2 := List.takeWhile_append_dropWhile (p := fun y => decide (y ≤ x)) (l := out)
      have h3 := List.take_append_drop (posU out x) out
      rw [ht] at h3
      exact List.append_cancel_left (h3.trans h2.symm)
    have hlt : ∀ y ∈ out.take (posU out x), y < x := fun y hy => by
      rw [ht] at hy
      have h1 := mem_tw hy
      have h2 : y ∈ out := (List.takeWhile_prefix _).subset hy
      have : y ≠ x := fun e => hx (e ▸ h2)
      simp at h1
      omega
    have hgt : ∀ y ∈ out.drop (posU out x), x < y := fun y hy => by
      rw [hd] at hy
      cases hdw : out.dropWhile (fun y => decide (y ≤ x)) with
      | nil => rw [hdw] at hy; cases hy
      | cons z r =>
        have hz : ¬ z ≤ x := by
          have := head_dw hdw
          simpa using this
        have hs : (z :: r).Pairwise (· < ·) := by rw [← hdw]; exact h.sublist (List.dropWhile_sublist _)
        rw [hdw] at hy
        rcases List.mem_cons.1 hy with rfl | hy
        · omega
        · have := (List.pairwise_cons.1 hs).1 y hy
          omega
    refine List.pairwise_append.2 ⟨List.pairwise_append.2 ⟨h.sublist (List.take_sublist _ _), by simp, fun a ha b hb => by simp at hb; subst hb; exact hlt a ha⟩, h.sublist (List.drop_sublist _ _), fun a ha b hb => ?_⟩
    have h5 := hgt b hb
    rcases List.mem_append.1 ha with ha | ha
    · have := hlt a ha; omega
    · simp at ha; subst ha; exact h5
theorem sortU_go : ∀ (l out : List Int), out.Pairwise (· < ·) → (l.foldl insU out).Pairwise (· < ·) ∧ ∀ y, y ∈ l.foldl insU out ↔ y ∈ out ∨ y ∈ l
  | [], out, h => ⟨h, fun y => by simp⟩
  | x :: r, out, h => by
    obtain ⟨h1, h2⟩ := sortU_go r (insU out x) (insU_srt h)
    refine ⟨h1, fun y => ?_⟩
    rw [List.foldl_cons, h2 y, insU_mem, List.mem_cons, or_assoc]
theorem sortU_srt (l : List Int) : (sortU l).Pairwise (· < ·) := (sortU_go l [] List.Pairwise.nil).1
theorem sortU_mem {l : List Int} {y : Int} : y ∈ sortU l ↔ y ∈ l := by have := (sortU_go l [] List.Pairwise.nil).2 y; unfold sortU; simpa using this
theorem lt_uniI {l m : List Int} (h1 : l.Pairwise (· < ·)) (h2 : m.Pairwise (· < ·)) (h : ∀ y, y ∈ l ↔ y ∈ m) : l = m :=
  List.Perm.eq_of_pairwise (fun a b _ _ h1 h2 => by omega) h1 h2 ((List.perm_ext_iff_of_nodup (h1.imp fun {a b} h => by omega) (h2.imp fun {a b} h => by omega)).2 h)
theorem insU_len (out : List Int) (x : Int) : (insU out x).length ≤ out.length + 1 := by
  unfold insU
  split
  · omega
  · rw [List.length_append, List.length_append, List.length_take, List.length_drop, List.length_singleton]; omega
theorem ins_at {out : List Int} {x : Int} {j : Nat} (hs : out.Pairwise (· < ·)) (hj : j ≤ out.length) (hlo : ∀ k y, k + 1 = j → out[k]? = some y → y < x) (hgt : ∀ y, out[j]? = some y → x < y) : insU out x = out.take j ++ [x] ++ out.drop j := by
  have hlow : ∀ k y, k < j → out[k]? = some y → y < x := fun k y hk hy => by
    obtain ⟨hkl, hye⟩ := List.getElem?_eq_some_iff.1 hy
    have h1 := hlo (j - 1) out[j - 1] (by omega) (List.getElem?_eq_getElem (by omega))
    by_cases e : k = j - 1
    · subst e; rw [← hye]; exact h1
    · have := List.pairwise_iff_getElem.1 hs k (j - 1) hkl (by omega) (by omega)
      omega
  have hhigh : ∀ k y, j ≤ k → out[k]? = some y → x < y := fun k y hk hy => by
    obtain ⟨hkl, hye⟩ := List.getElem?_eq_some_iff.1 hy
    have h1 := hgt out[j] (List.getElem?_eq_getElem (by omega))
    by_cases e : k = j
    · subst e; rw [← hye]; exact h1
    · have := List.pairwise_iff_getElem.1 hs j k (by omega) hkl (by omega)
      omega
  have hn : x ∉ out := fun h => by
    obtain ⟨k, hk⟩ := List.getElem?_of_mem h
    by_cases e : k < j
    · have := hlow k x e hk; omega
    · have := hhigh k x (by omega) hk; omega
  unfold insU
  rw [if_neg hn, posU_is hj (fun k y hk hy => by have := hlow k y hk hy; omega) hgt]
attribute [local irreducible] W AX Run RunD AStep AOp AOpX AStB AStH AStG Fits PCall GCall PostG Post Stop
theorem sorted16_c (l : List Int) : PCall Tryz.prog 16 [intsT l] (intsT (sortU l)) := by
  refine PCall.intro (nt := 60) (rs := [.tmp 2]) Tryz.func16 rfl ⟨by kernel_rfl, by kernel_rfl, by kernel_rfl⟩ (by simp) ?_
  rintro ⟨P, w0, ok0, may, np, pblk⟩ rfl rfl
  refine W.lenB 0 rfl tE3 fun hl0 hl1 => ?_
  rw [List.length_map] at hl1
  repeat' (first | refine W.seq fun K hK => ?_ | refine W.block ?_ | ((first | refine wR ?_ | refine wD ?_ | refine W.skip ?_ | refine W.exit ?_ | refine W.ret (Post.ret ?_) | refine aP ?_ | refine aF ?_); simp only [go_sem, reduceCtorEq]) | refine wT ?_ | refine wF ?_ | refine wC (fun h => ?_) (fun h => ?_) | refine iK ?_ | refine aI2 ?_ | (refine hK _ ?_; clear hK K) | clear hK K)
  refine W.loopF (T := fun i : Nat => { t := [(0, intsT l), (3, .c (.ref 0)), (4, ft (.int .i64 (i : Nat)))], h := [(0, .row 3 (imR (((l.take i).foldl insU []).map iA)))], nx := 1, ex := [], nt := 60 })
    (Inv := fun i => i ≤ l.length ∧ ((l.take i).foldl insU []).length ≤ i) (μ := fun i => l.length - i) (x0 := 0) ?_ ⟨Nat.zero_le _, by simp⟩ ?_
  · refine Fits.adopt 3 900 3 rfl rfl rfl tE3 rfl ?_
    refine Fits.fit [(900, 0)] [0, 3, 4] 1 rfl rfl ?_
    simp only [go_sem, List.take_zero, List.foldl_nil, List.map_nil, imR_nil]
    exact Fits.rfl
  rintro i ⟨hi, hol⟩ KL hKL
  by_cases hlt : i < l.length
  · obtain ⟨x, hx, hm, hd⟩ := drop_at hlt
    have e1 : decide ((i : Int) < l.length) = true := by simp; omega
    have hw := w64s i (by omega)
    have hsrt := (sortU_go (l.take i) [] List.Pairwise.nil).1
    have hst : (l.take (i + 1)).foldl insU [] = insU ((l.take i).foldl insU []) x := by rw [List.take_add_one, hx]; simp [List.foldl_append]
    have hil := insU_len ((l.take i).foldl insU []) x
    have hKL2 := fun (s' : St) h => hKL.to (s' := s') (i + 1) ⟨by omega, by rw [hst]; omega⟩ (by omega) h
    rw [hst] at hKL2
    clear hKL hst
    generalize (l.take i).foldl insU [] = out at *
    repeat' (first | refine W.seq fun K hK => ?_ | refine W.block ?_ | ((first | refine wR ?_ | refine wD ?_ | refine W.skip ?_ | refine W.exit ?_ | refine W.ret (Post.ret ?_) | refine aP ?_ | refine aF ?_); simp only [go_sem, reduceCtorEq, e1, List.length_map, imR_len]) | refine wT ?_ | refine wF ?_ | refine wC (fun h => ?_) (fun h => ?_) | refine iK ?_ | refine aI2 ?_ | (refine hK _ ?_; clear hK K) | clear hK K)
    refine W.loopF (T := fun j : Nat => { t := [(0, intsT l), (3, .c (.ref 0)), (4, ft (.int .i64 (i : Nat))), (5, ft (.int .i64 (j : Nat)))], h := [(0, .row 3 (imR (out.map iA)))], nx := 1, ex := [], nt := 60 })
      (Inv := fun j => j ≤ out.length ∧ ∀ y, out[j]? = some y → x < y) (μ := fun j => j) (x0 := out.length) ?_ ⟨Nat.le_refl _, fun y h => by rw [List.getElem?_eq_none (Nat.le_refl _)] at h; cases h⟩ ?_
    · refine Fits.fit [(0, 0)] [0, 3, 4, 5] 1 rfl rfl ?_
      simp only [go_sem]
      exact Fits.rfl
    rintro j ⟨hj, hgt⟩ KJ hKJ
    rcases j with _ | k
    · have f1 : decide (((0 : Nat) : Int) > 0) = false := by decide
      have f3 : decide (0 ≤ out.length) = true := by simp
      have f6 : decide (out.length ≤ out.length) = true := by simp
      have hins := ins_at hsrt (Nat.zero_le _) (fun k y h _ => by omega) hgt
      clear hKJ
      repeat' (first | refine W.seq fun K hK => ?_ | refine W.block ?_ | ((first | refine wR ?_ | refine wD ?_ | refine W.skip ?_ | refine W.exit ?_ | refine W.ret (Post.ret ?_) | refine aP ?_ | refine aF ?_); simp only [go_sem, reduceCtorEq, List.getElem?_map, hx, iA, e1, f1, f3, f6, hw, List.length_map, imR_len, imL, Nat.sub_zero, Nat.zero_add, List.length_take, List.length_drop]) | refine wT ?_ | refine wF ?_ | refine wC (fun h => ?_) (fun h => ?_) | refine iK ?_ | refine aI2 ?_ | (refine hK _ ?_; clear hK K) | clear hK K)
      have hrow : imR ((insU out x).map iA) = [Cell.im (AV.flat (Value.int .i64 x))] :: imR (List.take out.length (List.map iA out)) := by rw [hins]; simp [imR, imL, iA, List.take_of_length_le]
      refine hKL2 _ (Fits.fit [(43, 0)] [0, 3, 4] 1 rfl rfl ?_)
      simp only [go_sem, hrow]
      exact Fits.rfl
    · obtain ⟨y, hy, hym, _⟩ := drop_at (show k < out.length by omega)
      have f1 : decide (((k + 1 : Nat) : Int) > 0) = true := by rw [decide_eq_true_eq]; omega
      have hw1 : IntKind.i64.wrap (((k + 1 : Nat) : Int) - 1) = ((k : Nat) : Int) := by rw [w64 (by omega) (by omega)]; omega
      have f2 : decide (k < out.length) = true := by simp; omega
      have f4 : decide (k + 1 ≤ out.length) = true := by simp; omega
      have f5 : decide (k + 1 + (out.length - (k + 1)) ≤ out.length) = true := by simp; omega
      cases h1 : decide (y > x) with
      | true =>
        repeat' (first | refine W.seq fun K hK => ?_ | refine W.block ?_ | ((first | refine wR ?_ | refine wD ?_ | refine W.skip ?_ | refine W.exit ?_ | refine W.ret (Post.ret ?_) | refine aP ?_ | refine aF ?_); simp only [go_sem, reduceCtorEq, List.getElem?_map, hx, hy, iA, e1, f1, f2, hw1, h1, List.length_map, imR_len, imR_get, imL, List.map]) | refine wT ?_ | refine wF ?_ | refine wC (fun h => ?_) (fun h => ?_) | refine iK ?_ | refine aI2 ?_ | (refine hK _ ?_; clear hK K) | clear hK K)
        refine hKJ.to k ⟨by omega, fun z hz => by rw [hy] at hz; cases hz; simpa using h1⟩ (Nat.lt_succ_self k) (Fits.fit [(0, 0)] [0, 3, 4, 5] 1 rfl rfl ?_)
        simp only [go_sem]
        exact Fits.rfl
      | false =>
        cases h2 : (y == x) with
        | true =>
          have h3 : y = x := by simpa using h2
          have hins : insU out x = out := by unfold insU; rw [if_pos (h3 ▸ hym)]
          clear hKJ
          repeat' (first | refine W.seq fun K hK => ?_ | refine W.block ?_ | ((first | refine wR ?_ | refine wD ?_ | refine W.skip ?_ | refine W.exit ?_ | refine W.ret (Post.ret ?_) | refine aP ?_ | refine aF ?_); simp only [go_sem, reduceCtorEq, List.getElem?_map, hx, hy, iA, e1, f1, f2, f4, hw, hw1, h1, h2, List.length_map, imR_len, imR_get, imL, List.map]) | refine wT ?_ | refine wF ?_ | refine wC (fun h => ?_) (fun h => ?_) | refine iK ?_ | refine aI2 ?_ | (refine hK _ ?_; clear hK K) | clear hK K)
          refine hKL2 _ (Fits.fit [(0, 0)] [0, 3, 4] 1 rfl rfl ?_)
          simp only [go_sem, hins]
          exact Fits.rfl
        | false =>
          have hins := ins_at hsrt hj (fun k' z h hz => by
            have : k' = k := by omega
            subst this
            rw [hy] at hz; cases hz
            simp at h1 h2
            omega) hgt
          clear hKJ
          repeat' (first | refine W.seq fun K hK => ?_ | refine W.block ?_ | ((first | refine wR ?_ | refine wD ?_ | refine W.skip ?_ | refine W.exit ?_ | refine W.ret (Post.ret ?_) | refine aP ?_ | refine aF ?_); simp only [go_sem, reduceCtorEq, List.getElem?_map, hx, hy, iA, e1, f1, f2, f4, f5, hw, hw1, h1, h2, List.length_map, imR_len, imR_get, imL, List.map, Nat.sub_zero, List.length_take, List.length_drop]) | refine wT ?_ | refine wF ?_ | refine wC (fun h => ?_) (fun h => ?_) | refine iK ?_ | refine aI2 ?_ | (refine hK _ ?_; clear hK K) | clear hK K)
          have hrow : imR ((insU out x).map iA) = imR (List.take (k + 1) (List.map iA out)) ++ [[Cell.im (AV.flat (Value.int .i64 x))]] ++ imR (List.take (out.length - (k + 1)) (List.drop (k + 1) (List.map iA out))) := by rw [hins]; simp [imR, imL, iA, List.take_of_length_le]
          refine hKL2 _ (Fits.fit [(43, 0)] [0, 3, 4] 1 rfl rfl ?_)
          simp only [go_sem, hrow]
          exact Fits.rfl
  · obtain rfl : i = l.length := by omega
    have e1 : decide ((l.length : Int) < l.length) = false := by simp
    rw [List.take_length]
    clear hKL
    repeat' (first | refine W.seq fun K hK => ?_ | refine W.block ?_ | ((first | refine wR ?_ | refine wD ?_ | refine W.skip ?_ | refine W.exit ?_ | refine W.ret (Post.ret ?_) | refine aP ?_ | refine aF ?_); simp only [go_sem, reduceCtorEq, e1, List.length_map]) | refine wT ?_ | refine wF ?_ | refine wC (fun h => ?_) (fun h => ?_) | refine iK ?_ | refine aI2 ?_ | (refine hK _ ?_; clear hK K) | clear hK K)
    rfl
end Go.Proofs.YtigenjeealkdlaaGreat
namespace Go.Proofs
open Go.Shelf Go.RowKit Go.Lib Go.Sort
theorem YtigenjeealkdlaaGreat.sortC_of {P : Program} {ρ : Ren} (L : SlLaysF0.n6 P ρ) (k : Nat) (aE : ∀ w, (isAgg (ρ.t 24)).run P w = .ok true w) (zE : ∀ w, (Go.sizeOf (ρ.t 24)).run P w = .ok k w) (ok : Go.Exe.CallOk P (ρ.f 6)) : Go.Exe.SortC P (ρ.f 6) k :=
  ⟨ok, fun p cap fv w => AnyF.slices_SortFunc_none L p cap fv w, fun enc cf g blk cap n w hk h1 hO eg hcmp hH hblk hsz => by
    have h := AnyQ.slices_SortFunc L k aE zE enc hk h1 cf hO g #[] blk 0 cap (Array.range n) w eg (fun m os dk hd x y => hcmp m os dk (by simpa using hd) x y) hH hblk (by simpa using hsz)
    rw [Array.size_range] at h
    exact h⟩
end Go.Proofs
/-
  DERIVED: THE SHELF's CONTRACTS AT THIS DUMP, IN PLAIN WORDS (tools/lay-plain.mjs out of 'AUo.lean', which tools/lay-shelf.mjs wrote): THE SAME DECLARATIONS UNDER THE SAME NAMES: 'import', 'namespace', 'open', 'def', 'theorem' AND NOTHING ELSE: no command of the shelf's: FOR A HAND-IN. Each laying: the table of numbers ('.._ren') and one theorem, a field a fact of the dump's own or the kernel's comparison; each contract: ONE APPLICATION.
-/
namespace Go.Proofs
open Go.Shelf
def Tryz.sort144_ren : Go.Shelf.Ren := ⟨fun | 6 => 144 | 15 => 113 | 14 => 158 | 28 => 139 | 29 => 140 | 20 => 162 | 21 => 163 | 22 => 164 | 23 => 165 | 24 => 166 | 25 => 167 | 26 => 168 | 27 => 169 | 46 => 170 | 47 => 153 | 48 => 154 | 49 => 171 | 50 => 172 | 57 => 173 | n => n, fun | 22 => 30 | 24 => 88 | 25 => 158 | 3 => 3 | 39 => 160 | 0 => 0 | 53 => 194 | 55 => 161 | 4 => 4 | 46 => 188 | 45 => 187 | 50 => 49 | 5 => 5 | 9 => 9 | 66 => 206 | 70 => 210 | 76 => 217 | 77 => 218 | n => n, fun | n => n⟩
theorem Tryz.sort144 : Go.Proofs.SlLaysF0.n6 Tryz.prog Tryz.sort144_ren := {
  mixed := by kernel_rfl
  f6 := ⟨Tryz.f144.name, by decide, Tryz.func144.trans (congrArg some (by kernel_rfl))⟩
  f14 := ⟨Tryz.f158.name, by decide, Tryz.func158.trans (congrArg some (by kernel_rfl))⟩
  f15 := Tryz.func113.trans (congrArg some (by kernel_rfl))
  f20 := ⟨Tryz.f162.name, by decide, Tryz.func162.trans (congrArg some (by kernel_rfl))⟩
  f21 := ⟨Tryz.f163.name, by decide, Tryz.func163.trans (congrArg some (by kernel_rfl))⟩
  f22 := ⟨Tryz.f164.name, by decide, Tryz.func164.trans (congrArg some (by kernel_rfl))⟩
  f23 := ⟨Tryz.f165.name, by decide, Tryz.func165.trans (congrArg some (by kernel_rfl))⟩
  f24 := ⟨Tryz.f166.name, by decide, Tryz.func166.trans (congrArg some (by kernel_rfl))⟩
  f25 := ⟨Tryz.f167.name, by decide, Tryz.func167.trans (congrArg some (by kernel_rfl))⟩
  f26 := ⟨Tryz.f168.name, by decide, Tryz.func168.trans (congrArg some (by kernel_rfl))⟩
  f27 := ⟨Tryz.f169.name, by decide, Tryz.func169.trans (congrArg some (by kernel_rfl))⟩
  f28 := Tryz.func139.trans (congrArg some (by kernel_rfl))
  f29 := Tryz.func140.trans (congrArg some (by kernel_rfl))
  f46 := ⟨Tryz.f170.name, by decide, Tryz.func170.trans (congrArg some (by kernel_rfl))⟩
  f47 := Tryz.func153.trans (congrArg some (by kernel_rfl))
  f48 := Tryz.func154.trans (congrArg some (by kernel_rfl))
  f49 := ⟨Tryz.f171.name, by decide, Tryz.func171.trans (congrArg some (by kernel_rfl))⟩
  f50 := ⟨Tryz.f172.name, by decide, Tryz.func172.trans (congrArg some (by kernel_rfl))⟩
  f57 := ⟨Tryz.f173.name, by decide, Tryz.func173.trans (congrArg some (by kernel_rfl))⟩
  t0 := Tryz.underlying0
  a0 := Tryz.isAgg0
  z0 := Tryz.sizeOf0
  v0 := Tryz.zeroValue0
  t3 := Tryz.underlying3
  a3 := Tryz.isAgg3
  z3 := Tryz.sizeOf3
  v3 := Tryz.zeroValue3
  t4 := Tryz.underlying4
  a4 := Tryz.isAgg4
  z4 := Tryz.sizeOf4
  v4 := Tryz.zeroValue4
  t5 := Tryz.underlying5
  a5 := Tryz.isAgg5
  z5 := Tryz.sizeOf5
  v5 := Tryz.zeroValue5
  t9 := Tryz.underlying9
  a9 := Tryz.isAgg9
  z9 := Tryz.sizeOf9
  v9 := Tryz.zeroValue9
  t22 := Tryz.underlying30
  a22 := Tryz.isAgg30
  z22 := Tryz.sizeOf30
  v22 := Tryz.zeroValue30
  t25 := Tryz.underlying158
  a25 := Tryz.isAgg158
  z25 := Tryz.sizeOf158
  v25 := Tryz.zeroValue158
  t39 := Tryz.underlying160
  a39 := Tryz.isAgg160
  z39 := Tryz.sizeOf160
  v39 := Tryz.zeroValue160
  t45 := Tryz.underlying187
  a45 := Tryz.isAgg187
  z45 := Tryz.sizeOf187
  v45 := Tryz.zeroValue187
  t46 := Tryz.underlying188
  a46 := Tryz.isAgg188
  z46 := Tryz.sizeOf188
  v46 := Tryz.zeroValue188
  t50 := Tryz.underlying49
  a50 := Tryz.isAgg49
  z50 := Tryz.sizeOf49
  v50 := Tryz.zeroValue49
  t53 := Tryz.underlying194
  a53 := Tryz.isAgg194
  z53 := Tryz.sizeOf194
  v53 := Tryz.zeroValue194
  t55 := Tryz.underlying161
  a55 := Tryz.isAgg161
  z55 := Tryz.sizeOf161
  v55 := Tryz.zeroValue161
  t66 := Tryz.underlying206
  a66 := Tryz.isAgg206
  z66 := Tryz.sizeOf206
  v66 := Tryz.zeroValue206
  t70 := Tryz.underlying210
  a70 := Tryz.isAgg210
  z70 := Tryz.sizeOf210
  v70 := Tryz.zeroValue210
  t76 := Tryz.underlying217
  a76 := Tryz.isAgg217
  z76 := Tryz.sizeOf217
  v76 := Tryz.zeroValue217
  t77 := Tryz.underlying218
  a77 := Tryz.isAgg218
  z77 := Tryz.sizeOf218
  v77 := Tryz.zeroValue218 }
end Go.Proofs
/-
  DERIVED: THE SHELF's CONTRACTS AT THIS DUMP, IN PLAIN WORDS (tools/lay-plain.mjs out of 'AUp.lean', which tools/lay-shelf.mjs wrote): THE SAME DECLARATIONS UNDER THE SAME NAMES: 'import', 'namespace', 'open', 'def', 'theorem' AND NOTHING ELSE: no command of the shelf's: FOR A HAND-IN. Each laying: the table of numbers ('.._ren') and one theorem, a field a fact of the dump's own or the kernel's comparison; each contract: ONE APPLICATION.
-/
namespace Go.Proofs
open Go.Shelf
def Tryz.grow84_ren : Go.Shelf.Ren := ⟨fun | 4 => 84 | n => n, fun | 22 => 26 | 25 => 3 | 3 => 3 | 4 => 4 | 9 => 9 | 20 => 20 | 0 => 0 | n => n, fun | n => n⟩
theorem Tryz.grow84 : Go.Proofs.Lays8.n4 Tryz.prog Tryz.grow84_ren := {
  mixed := by kernel_rfl
  f4 := ⟨Tryz.f84.name, by decide, Tryz.func84.trans (congrArg some (by kernel_rfl))⟩
  t0 := Tryz.underlying0
  a0 := Tryz.isAgg0
  z0 := Tryz.sizeOf0
  v0 := Tryz.zeroValue0
  t3 := Tryz.underlying3
  a3 := Tryz.isAgg3
  z3 := Tryz.sizeOf3
  v3 := Tryz.zeroValue3
  t4 := Tryz.underlying4
  a4 := Tryz.isAgg4
  z4 := Tryz.sizeOf4
  v4 := Tryz.zeroValue4
  t9 := Tryz.underlying9
  a9 := Tryz.isAgg9
  z9 := Tryz.sizeOf9
  v9 := Tryz.zeroValue9
  t20 := Tryz.underlying20
  a20 := Tryz.isAgg20
  z20 := Tryz.sizeOf20
  v20 := Tryz.zeroValue20
  t22 := Tryz.underlying26
  a22 := Tryz.isAgg26
  z22 := Tryz.sizeOf26
  v22 := Tryz.zeroValue26 }
def Tryz.grow122_ren : Go.Shelf.Ren := ⟨fun | 4 => 122 | n => n, fun | 22 => 30 | 25 => 88 | 3 => 3 | 4 => 4 | 9 => 9 | 20 => 20 | 0 => 0 | n => n, fun | n => n⟩
theorem Tryz.grow122 : Go.Proofs.Lays8.n4 Tryz.prog Tryz.grow122_ren := {
  mixed := by kernel_rfl
  f4 := ⟨Tryz.f122.name, by decide, Tryz.func122.trans (congrArg some (by kernel_rfl))⟩
  t0 := Tryz.underlying0
  a0 := Tryz.isAgg0
  z0 := Tryz.sizeOf0
  v0 := Tryz.zeroValue0
  t3 := Tryz.underlying3
  a3 := Tryz.isAgg3
  z3 := Tryz.sizeOf3
  v3 := Tryz.zeroValue3
  t4 := Tryz.underlying4
  a4 := Tryz.isAgg4
  z4 := Tryz.sizeOf4
  v4 := Tryz.zeroValue4
  t9 := Tryz.underlying9
  a9 := Tryz.isAgg9
  z9 := Tryz.sizeOf9
  v9 := Tryz.zeroValue9
  t20 := Tryz.underlying20
  a20 := Tryz.isAgg20
  z20 := Tryz.sizeOf20
  v20 := Tryz.zeroValue20
  t22 := Tryz.underlying30
  a22 := Tryz.isAgg30
  z22 := Tryz.sizeOf30
  v22 := Tryz.zeroValue30 }
def Tryz.sort85_ren : Go.Shelf.Ren := ⟨fun | 5 => 85 | 8 => 113 | 7 => 112 | 19 => 139 | 20 => 140 | 10 => 130 | 11 => 131 | 12 => 132 | 13 => 133 | 14 => 134 | 15 => 135 | 16 => 136 | 17 => 137 | 18 => 138 | 30 => 152 | 31 => 153 | 32 => 154 | 33 => 155 | 34 => 156 | 35 => 114 | 40 => 161 | n => n, fun | 23 => 26 | 25 => 3 | 3 => 3 | 32 => 160 | 22 => 26 | 0 => 0 | 44 => 194 | 46 => 161 | 4 => 4 | 36 => 188 | 35 => 187 | 41 => 49 | 5 => 5 | 9 => 9 | 53 => 206 | 57 => 210 | 63 => 217 | 64 => 218 | n => n, fun | n => n⟩
theorem Tryz.sort85 : Go.Proofs.SlLaysM.n5 Tryz.prog Tryz.sort85_ren := {
  mixed := by kernel_rfl
  f5 := ⟨Tryz.f85.name, by decide, Tryz.func85.trans (congrArg some (by kernel_rfl))⟩
  f7 := ⟨Tryz.f112.name, by decide, Tryz.func112.trans (congrArg some (by kernel_rfl))⟩
  f8 := Tryz.func113.trans (congrArg some (by kernel_rfl))
  f10 := ⟨Tryz.f130.name, by decide, Tryz.func130.trans (congrArg some (by kernel_rfl))⟩
  f11 := ⟨Tryz.f131.name, by decide, Tryz.func131.trans (congrArg some (by kernel_rfl))⟩
  f12 := ⟨Tryz.f132.name, by decide, Tryz.func132.trans (congrArg some (by kernel_rfl))⟩
  f13 := ⟨Tryz.f133.name, by decide, Tryz.func133.trans (congrArg some (by kernel_rfl))⟩
  f14 := ⟨Tryz.f134.name, by decide, Tryz.func134.trans (congrArg some (by kernel_rfl))⟩
  f15 := ⟨Tryz.f135.name, by decide, Tryz.func135.trans (congrArg some (by kernel_rfl))⟩
  f16 := ⟨Tryz.f136.name, by decide, Tryz.func136.trans (congrArg some (by kernel_rfl))⟩
  f17 := ⟨Tryz.f137.name, by decide, Tryz.func137.trans (congrArg some (by kernel_rfl))⟩
  f18 := ⟨Tryz.f138.name, by decide, Tryz.func138.trans (congrArg some (by kernel_rfl))⟩
  f19 := Tryz.func139.trans (congrArg some (by kernel_rfl))
  f20 := Tryz.func140.trans (congrArg some (by kernel_rfl))
  f30 := ⟨Tryz.f152.name, by decide, Tryz.func152.trans (congrArg some (by kernel_rfl))⟩
  f31 := Tryz.func153.trans (congrArg some (by kernel_rfl))
  f32 := Tryz.func154.trans (congrArg some (by kernel_rfl))
  f33 := ⟨Tryz.f155.name, by decide, Tryz.func155.trans (congrArg some (by kernel_rfl))⟩
  f34 := ⟨Tryz.f156.name, by decide, Tryz.func156.trans (congrArg some (by kernel_rfl))⟩
  f35 := ⟨Tryz.f114.name, by decide, Tryz.func114.trans (congrArg some (by kernel_rfl))⟩
  f40 := ⟨Tryz.f161.name, by decide, Tryz.func161.trans (congrArg some (by kernel_rfl))⟩
  t0 := Tryz.underlying0
  a0 := Tryz.isAgg0
  z0 := Tryz.sizeOf0
  v0 := Tryz.zeroValue0
  t3 := Tryz.underlying3
  a3 := Tryz.isAgg3
  z3 := Tryz.sizeOf3
  v3 := Tryz.zeroValue3
  t4 := Tryz.underlying4
  a4 := Tryz.isAgg4
  z4 := Tryz.sizeOf4
  v4 := Tryz.zeroValue4
  t5 := Tryz.underlying5
  a5 := Tryz.isAgg5
  z5 := Tryz.sizeOf5
  v5 := Tryz.zeroValue5
  t9 := Tryz.underlying9
  a9 := Tryz.isAgg9
  z9 := Tryz.sizeOf9
  v9 := Tryz.zeroValue9
  t22 := Tryz.underlying26
  a22 := Tryz.isAgg26
  z22 := Tryz.sizeOf26
  v22 := Tryz.zeroValue26
  t23 := Tryz.underlying26
  a23 := Tryz.isAgg26
  z23 := Tryz.sizeOf26
  v23 := Tryz.zeroValue26
  t25 := Tryz.underlying3
  a25 := Tryz.isAgg3
  z25 := Tryz.sizeOf3
  v25 := Tryz.zeroValue3
  t32 := Tryz.underlying160
  a32 := Tryz.isAgg160
  z32 := Tryz.sizeOf160
  v32 := Tryz.zeroValue160
  t35 := Tryz.underlying187
  a35 := Tryz.isAgg187
  z35 := Tryz.sizeOf187
  v35 := Tryz.zeroValue187
  t36 := Tryz.underlying188
  a36 := Tryz.isAgg188
  z36 := Tryz.sizeOf188
  v36 := Tryz.zeroValue188
  t41 := Tryz.underlying49
  a41 := Tryz.isAgg49
  z41 := Tryz.sizeOf49
  v41 := Tryz.zeroValue49
  t44 := Tryz.underlying194
  a44 := Tryz.isAgg194
  z44 := Tryz.sizeOf194
  v44 := Tryz.zeroValue194
  t46 := Tryz.underlying161
  a46 := Tryz.isAgg161
  z46 := Tryz.sizeOf161
  v46 := Tryz.zeroValue161
  t53 := Tryz.underlying206
  a53 := Tryz.isAgg206
  z53 := Tryz.sizeOf206
  v53 := Tryz.zeroValue206
  t57 := Tryz.underlying210
  a57 := Tryz.isAgg210
  z57 := Tryz.sizeOf210
  v57 := Tryz.zeroValue210
  t63 := Tryz.underlying217
  a63 := Tryz.isAgg217
  z63 := Tryz.sizeOf217
  v63 := Tryz.zeroValue217
  t64 := Tryz.underlying218
  a64 := Tryz.isAgg218
  z64 := Tryz.sizeOf218
  v64 := Tryz.zeroValue218 }
end Go.Proofs
namespace Go.Proofs.YtigenjeealkdlaaGreat
open Go.RowKit Go.Exe
theorem aggOf {P : Program} {t : TypeId} {n : Nat} (ht : TI P t = some (true, n)) (w : World) : (isAgg t).run P w = .ok true w := by
  obtain ⟨i, d, hi, hd, hg, hn⟩ := TI_spec ht
  unfold isAgg
  simp only [Sem.run_bind, run_underlying hd, Result.andThen_ok]
  rw [← hg]
  cases d <;> rfl
theorem sizeOf_ {P : Program} {t : TypeId} {g : Bool} {n : Nat} (ht : TI P t = some (g, n)) (w : World) : (Go.sizeOf t).run P w = .ok n w := by
  obtain ⟨i, d, h1, h2, h3, h4⟩ := TI_spec ht
  simp [sizeOf, typeInfo, h1, h4]
theorem sort144_c : SortC Tryz.prog 144 14 := sortC_of Tryz.sort144 14 (aggOf tI88) (sizeOf_ tI88) ⟨Tryz.f144, Tryz.func144, by kernel_rfl, by kernel_rfl⟩
theorem sort85_c : SortI Tryz.prog 85 := ⟨⟨Tryz.f85, Tryz.func85, by kernel_rfl, by kernel_rfl⟩, fun p cap w => AnyM.slices_Sort_int_none Tryz.sort85 p cap w, fun blk cap zs w hH hb hn => AnyM.slices_Sort_int Tryz.sort85 blk 0 cap zs w hH hb hn⟩
theorem grow84_c : GrowC Tryz.prog 84 3 1 8 := by
  refine ⟨⟨Tryz.f84, Tryz.func84, by kernel_rfl, by kernel_rfl⟩, fun w => Any8.slices_Grow_room Tryz.grow84 none 0 0 0 w (Nat.le_refl _) (by decide) (by decide) (Nat.le_refl _), fun n w h0 h1 h2 => ?_⟩
  obtain ⟨i0, hi0, hsz, hbs⟩ := EInfo_spec tE3
  obtain ⟨i1, z, hi1, hz, hzs, _⟩ := ZV_spec tZ3
  obtain rfl : i0 = i1 := by rw [hi0] at hi1; exact Option.some.inj hi1
  have hzz : z.cells.size = 1 := by rw [← Array.length_toList, hzs]; rfl
  have hb1 : n * i0.bytes ≤ 140737488355328 := by rw [hbs]; exact h1
  refine (Any8.slices_Grow_grow Tryz.grow84 i0 z hi0 hz (by rw [hsz]; exact Nat.zero_lt_one) none 0 0 n [] w (Nat.le_refl _) (by omega) (by rw [Nat.zero_add]; exact hb1) (by omega) (by simp) (fun _ => rfl) (fun a ha => by cases ha)).mono fun ed w' ⟨e1, e2⟩ => ?_
  have hge := Go.grownCap_ge w (0 + n) 0 (Tryz.grow84_ren.t 25)
  have hle := Go.grownCap_le_maxLen w (0 + n) 0 (Tryz.grow84_ren.t 25) (by unfold maxLen; omega)
  refine ⟨_, _, e1, hle, ?_, e2⟩
  have hzc : ∀ m, (Builtin.zeroCells z.cells m).size = m := fun m => by simp [Builtin.zeroCells, hzz]
  simp only [Array.size_append, hzc, Nat.zero_add] at hge ⊢
  simp only [List.size_toArray, List.length_nil]
  omega
theorem grow122_c : GrowC Tryz.prog 122 88 14 168 := by
  refine ⟨⟨Tryz.f122, Tryz.func122, by kernel_rfl, by kernel_rfl⟩, fun w => Any8.slices_Grow_room Tryz.grow122 none 0 0 0 w (Nat.le_refl _) (by decide) (by decide) (Nat.le_refl _), fun n w h0 h1 h2 => ?_⟩
  obtain ⟨i0, hi0, hsz, hbs⟩ := EInfo_spec tE88
  obtain ⟨i1, z, hi1, hz, hzs, _⟩ := ZV_spec tZ88
  obtain rfl : i0 = i1 := by rw [hi0] at hi1; exact Option.some.inj hi1
  have hzz : z.cells.size = 14 := by rw [← Array.length_toList, hzs]; rfl
  have hb1 : n * i0.bytes ≤ 140737488355328 := by rw [hbs]; exact h1
  refine (Any8.slices_Grow_grow Tryz.grow122 i0 z hi0 hz (by rw [hsz]; exact Nat.zero_lt_succ _) none 0 0 n [] w (Nat.le_refl _) (by omega) (by rw [Nat.zero_add]; exact hb1) (by omega) (by simp) (fun _ => rfl) (fun a ha => by cases ha)).mono fun ed w' ⟨e1, e2⟩ => ?_
  have hge := Go.grownCap_ge w (0 + n) 0 (Tryz.grow122_ren.t 25)
  have hle := Go.grownCap_le_maxLen w (0 + n) 0 (Tryz.grow122_ren.t 25) (by unfold maxLen; omega)
  refine ⟨_, _, e1, hle, ?_, e2⟩
  have hzc : ∀ m, (Builtin.zeroCells z.cells m).size = m * 14 := fun m => by simp [Builtin.zeroCells, hzz]
  simp only [Array.size_append, hzc, Nat.zero_add] at hge ⊢
  simp only [List.size_toArray, List.length_nil]
  omega
end Go.Proofs.YtigenjeealkdlaaGreat
namespace Go.Proofs.YtigenjeealkdlaaGreat
open Go.RowKit Go.Exe
/-! ### what is below a span, and the parts of a tree -/
inductive Desc (ss : List Spn) (x : Int) : Int → Prop
  | refl : Desc ss x x
  | step {y z : Int} : Desc ss x y → z ∈ kidsF ss y → Desc ss x z
theorem fnd_at {nds : List Nd} (hs : nds.Pairwise fun a b => a.id < b.id) {k : Nat} {n : Nd} (h : nds[k]? = some n) : fnd nds n.id = k := by
  obtain ⟨hk, he⟩ := List.getElem?_eq_some_iff.1 h
  refine fnd_eq n.id nds k (by omega) (fun a m ha hm => ?_) (fun a m ha hm => ?_)
  · obtain ⟨h1, h2⟩ := List.getElem?_eq_some_iff.1 hm
    have := List.pairwise_iff_getElem.1 hs a k h1 hk ha
    rw [he, h2] at this
    exact this
  · obtain ⟨h1, h2⟩ := List.getElem?_eq_some_iff.1 hm
    by_cases e : k = a
    · subst e; rw [h] at hm; cases hm; omega
    · have := List.pairwise_iff_getElem.1 hs k a hk h1 (by omega)
      rw [he, h2] at this
      omega
theorem nodesD_srt {ss : List Spn} (hs : ss.Pairwise fun a b => a.id < b.id) (d : Nat) : (nodesD ss d).Pairwise fun a b => a.id < b.id := by
  unfold nodesD
  rw [List.pairwise_map]
  exact hs
theorem chOf_kids {ss : List Spn} {d : Nat} {x : Int} {ch : List Int} (h : chOf (nodesD ss d) x = some ch) : ch = kidsF ss x := by
  obtain ⟨n, hn, _, e, e2⟩ := chOf_mem h
  obtain ⟨s, _, rfl⟩ := List.mem_map.1 hn
  rw [← e2, ← e]
theorem chOf_is {ss : List Spn} (hs : ss.Pairwise fun a b => a.id < b.id) {d : Nat} {x : Int} (hx : x ∈ idsOf ss) : chOf (nodesD ss d) x = some (kidsF ss x) := by
  obtain ⟨s, hsm, rfl⟩ := List.mem_map.1 hx
  obtain ⟨k, hk⟩ := List.getElem?_of_mem hsm
  have hn : (nodesD ss d)[k]? = some ⟨s.id, s.pa, depN ss d s.id, kidsF ss s.id⟩ := by simp [nodesD, hk]
  have hf := fnd_at (nodesD_srt hs d) hn
  unfold chOf
  rw [show fnd (nodesD ss d) s.id = k from hf, hn]
  simp
theorem kids_ids {ss : List Spn} {p x : Int} (h : x ∈ kidsF ss p) : x ∈ idsOf ss := by
  obtain ⟨s, hs, rfl, _⟩ := mem_kids.1 h
  exact List.mem_map_of_mem hs
theorem vis_keep (nds : List Nd) : ∀ (n : Nat) (seen : List Int) (id : Int), ∀ y ∈ seen, y ∈ visF nds n seen id
  | 0, seen, id, y, h => h
  | n + 1, seen, id, y, h => by
    unfold visF
    cases chOf nds id with
    | none => exact h
    | some ch =>
      by_cases hn : id ∈ seen
      · simp only [if_pos hn]; exact h
      · simp only [if_neg hn]
        have key : ∀ (ch s : List Int), y ∈ s → y ∈ ch.foldl (visF nds n) s := by
          intro ch
          induction ch with
          | nil => exact fun s h => h
          | cons c r ih => exact fun s h => ih _ (vis_keep nds n s c y h)
        exact key ch _ (by simp [h])
theorem Desc.head {ss : List Spn} {x c y : Int} (hc : c ∈ kidsF ss x) (h : Desc ss c y) : Desc ss x y := by
  induction h with
  | refl => exact .step .refl hc
  | step _ hz ih => exact .step ih hz
theorem vis_sub (ss : List Spn) (d : Nat) : ∀ (n : Nat) (seen : List Int) (id : Int), ∀ y ∈ visF (nodesD ss d) n seen id, y ∈ seen ∨ Desc ss id y
  | 0, seen, id, y, h => .inl h
  | n + 1, seen, id, y, h => by
    unfold visF at h
    cases hc : chOf (nodesD ss d) id with
    | none => rw [hc] at h; exact .inl h
    | some ch =>
      rw [hc] at h
      by_cases hn : id ∈ seen
      · simp only [if_pos hn] at h; exact .inl h
      · simp only [if_neg hn] at h
        have hk := chOf_kids hc
        have key : ∀ (ch s : List Int), (∀ c ∈ ch, c ∈ kidsF ss id) → y ∈ ch.foldl (visF (nodesD ss d) n) s → y ∈ s ∨ Desc ss id y := by
          intro ch
          induction ch with
          | nil => exact fun s _ h => .inl h
          | cons c r ih =>
            intro s hm h
            rcases ih _ (fun c hc => hm c (List.mem_cons_of_mem _ hc)) h with h | h
            · rcases vis_sub ss d n s c y h with h | h
              · exact .inl h
              · exact .inr (.head (hm c (by simp)) h)
            · exact .inr h
        rcases key ch _ (fun c hc => hk ▸ hc) h with h | h
        · rcases List.mem_append.1 h with h | h
          · exact .inl h
          · obtain rfl : y = id := by simpa using h
            exact .inr .refl
        · exact .inr h
theorem vis_clo {ss : List Spn} (hs : ss.Pairwise fun a b => a.id < b.id) (d : Nat) : ∀ (n : Nat) (seen : List Int) (id : Int), OkS (nodesD ss d) seen → ss.length < n + seen.length → id ∈ idsOf ss →
    id ∈ visF (nodesD ss d) n seen id ∧ ∀ y ∈ visF (nodesD ss d) n seen id, y ∈ seen ∨ ∀ c ∈ kidsF ss y, c ∈ visF (nodesD ss d) n seen id
  | 0, seen, id, hok, hl, hid => by have := hok.len; rw [nodesD_len] at this; omega
  | n + 1, seen, id, hok, hl, hid => by
    have hc := chOf_is hs (d := d) hid
    unfold visF
    rw [hc]
    by_cases hn : id ∈ seen
    · simp only [if_pos hn]
      exact ⟨hn, fun y hy => .inl hy⟩
    · simp only [if_neg hn]
      have key : ∀ (ch s : List Int), OkS (nodesD ss d) s → ss.length < n + s.length → (∀ c ∈ ch, c ∈ idsOf ss) →
          (∀ c ∈ ch, c ∈ ch.foldl (visF (nodesD ss d) n) s) ∧ (∀ y ∈ s, y ∈ ch.foldl (visF (nodesD ss d) n) s) ∧ ∀ y ∈ ch.foldl (visF (nodesD ss d) n) s, y ∈ s ∨ ∀ c ∈ kidsF ss y, c ∈ ch.foldl (visF (nodesD ss d) n) s := by
        intro ch
        induction ch with
        | nil => exact fun s _ _ _ => ⟨fun c hc => (by cases hc), fun y h => h, fun y h => Or.inl h⟩
        | cons c r ih =>
          intro s hos hls hm
          have h1 := vis_clo hs d n s c hos hls (hm c (by simp))
          have h2 := visF_ok (nodesD ss d) n s c hos
          have h3 := ih (visF (nodesD ss d) n s c) h2.1 (by omega) (fun c hc => hm c (List.mem_cons_of_mem _ hc))
          simp only [List.foldl_cons]
          refine ⟨fun c' hc' => ?_, fun y hy => h3.2.1 y (vis_keep _ n s c y hy), fun y hy => ?_⟩
          · rcases List.mem_cons.1 hc' with rfl | hc'
            · exact h3.2.1 _ h1.1
            · exact h3.1 c' hc'
          · rcases h3.2.2 y hy with h | h
            · rcases h1.2 y h with h | h
              · exact .inl h
              · exact .inr fun c' hc' => h3.2.1 _ (h c' hc')
            · exact .inr h
      have hk := key (kidsF ss id) (seen ++ [id]) (hok.snoc hc hn) (by rw [List.length_append, List.length_singleton]; omega) (fun c hc => kids_ids hc)
      refine ⟨hk.2.1 id (by simp), fun y hy => ?_⟩
      rcases hk.2.2 y hy with h | h
      · rcases List.mem_append.1 h with h | h
        · exact .inl h
        · obtain rfl : y = id := by simpa using h
          exact .inr hk.1
      · exact .inr h
theorem okS_nil (nds : List Nd) : OkS nds [] := ⟨List.nodup_nil, by simp⟩
theorem subF_nodup (nds : List Nd) (id : Int) : (subF nds id).Nodup := (visF_ok nds _ [] id (okS_nil nds)).1.nd
theorem subF_mem {ss : List Spn} (hs : ss.Pairwise fun a b => a.id < b.id) {d : Nat} {x y : Int} (hx : x ∈ idsOf ss) : y ∈ subF (nodesD ss d) x ↔ Desc ss x y := by
  constructor
  · intro h
    rcases vis_sub ss d _ [] x y h with h | h
    · cases h
    · exact h
  · intro h
    have hc := vis_clo hs d ((nodesD ss d).length + 1) [] x (okS_nil _) (by rw [nodesD_len]; simp) hx
    induction h with
    | refl => exact hc.1
    | step _ hz ih =>
      rcases hc.2 _ ih with h | h
      · cases h
      · exact h _ hz
theorem Desc.ids {ss : List Spn} {x y : Int} (hx : x ∈ idsOf ss) (h : Desc ss x y) : y ∈ idsOf ss := by
  cases h with
  | refl => exact hx
  | step _ hz => exact kids_ids hz
theorem tops_ids {ss : List Spn} {x : Int} (h : x ∈ topsF ss) : x ∈ idsOf ss := lev_ids 0 h
theorem top_kid {ss : List Spn} (hn : (idsOf ss).Nodup) {x p : Int} (h : x ∈ topsF ss) (hp : p ∈ idsOf ss) (hk : x ∈ kidsF ss p) : False := by
  obtain ⟨s, hs, rfl, ht⟩ := mem_tops.1 h
  obtain ⟨s', hs', e1, e2, e3⟩ := mem_kids.1 hk
  obtain rfl := id_uni hn hs' hs e1
  rcases ht with h0 | h0
  · exact e3 h0
  · exact h0 (e2 ▸ hp)
theorem desc_one {ss : List Spn} (hn : (idsOf ss).Nodup) {a b y : Int} (ha : a ∈ topsF ss) (hb : b ∈ topsF ss) (h1 : Desc ss a y) (h2 : Desc ss b y) : a = b := by
  induction h1 with
  | refl =>
    cases h2 with
    | refl => rfl
    | step h hz => exact (top_kid hn ha (h.ids (tops_ids hb)) hz).elim
  | step h hz ih =>
    cases h2 with
    | refl => exact (top_kid hn hb (h.ids (tops_ids ha)) hz).elim
    | step h' hz' =>
      obtain ⟨s, hs, e1, e2, _⟩ := mem_kids.1 hz
      obtain ⟨s', hs', e1', e2', _⟩ := mem_kids.1 hz'
      obtain rfl := id_uni hn hs hs' (e1.trans e1'.symm)
      exact ih ((e2.symm.trans e2') ▸ h')
theorem lev_desc {ss : List Spn} : ∀ (d : Nat) {x : Int}, x ∈ lev ss d → ∃ a ∈ topsF ss, Desc ss a x
  | 0, x, h => ⟨x, h, .refl⟩
  | d + 1, x, h => by
    obtain ⟨p, hp, hx⟩ := List.mem_flatMap.1 h
    obtain ⟨a, ha, hd⟩ := lev_desc d hp
    exact ⟨a, ha, .step hd hx⟩
theorem desc_lev {ss : List Spn} {a x : Int} (ha : a ∈ topsF ss) (h : Desc ss a x) : ∃ d, x ∈ lev ss d := by
  induction h with
  | refl => exact ⟨0, ha⟩
  | step _ hz ih =>
    obtain ⟨d, hd⟩ := ih
    exact ⟨d + 1, List.mem_flatMap.2 ⟨_, hd, hz⟩⟩
theorem depN_neg {ss : List Spn} {x : Int} : ∀ n, depN ss n x < 0 ↔ ∀ d, d < n → x ∉ lev ss d
  | 0 => by simp [depN]
  | n + 1 => by
    unfold depN
    by_cases h : x ∈ lev ss n
    · rw [if_pos h]
      exact ⟨fun h0 => by omega, fun h0 => absurd h (h0 n (by omega))⟩
    · rw [if_neg h, depN_neg n]
      refine ⟨fun h0 d hd => ?_, fun h0 d hd => h0 d (by omega)⟩
      by_cases e : d = n
      · subst e; exact h
      · exact h0 d (by omega)
theorem cyc_mem {ss : List Spn} (hn : (idsOf ss).Nodup) {x : Int} : x ∈ cycN ss ss.length ↔ x ∈ idsOf ss ∧ ∀ d, x ∉ lev ss d := by
  simp only [cycN, List.take_length, List.mem_map, List.mem_filter, decide_eq_true_eq, idsOf]
  constructor
  · rintro ⟨s, ⟨h1, h2⟩, rfl⟩
    refine ⟨⟨s, h1, rfl⟩, fun d hd => ?_⟩
    exact (depN_neg ss.length).1 h2 d (dep_lt hn (List.ne_nil_of_mem hd)) hd
  · rintro ⟨⟨s, h1, rfl⟩, h2⟩
    exact ⟨s, ⟨h1, (depN_neg ss.length).2 fun d _ => h2 d⟩, rfl⟩
/-- The cyclic spans, and what is below the roots and the orphans. -/
def partsF (ss : List Spn) (d : Nat) : List Int := cycN ss ss.length ++ (topsF ss).flatMap (subF (nodesD ss d))
theorem parts_mem {ss : List Spn} (hs : ss.Pairwise fun a b => a.id < b.id) (d : Nat) {x : Int} : x ∈ partsF ss d ↔ x ∈ idsOf ss := by
  have hn := nodup_sorted hs
  unfold partsF
  rw [List.mem_append, cyc_mem hn, List.mem_flatMap]
  constructor
  · rintro (h | ⟨a, ha, hx⟩)
    · exact h.1
    · exact ((subF_mem hs (tops_ids ha)).1 hx).ids (tops_ids ha)
  · intro h
    by_cases hl : ∃ d, x ∈ lev ss d
    · obtain ⟨d, hd⟩ := hl
      obtain ⟨a, ha, hd⟩ := lev_desc d hd
      exact .inr ⟨a, ha, (subF_mem hs (tops_ids ha)).2 hd⟩
    · exact .inl ⟨h, fun d hd => hl ⟨d, hd⟩⟩
theorem parts_nodup {ss : List Spn} (hs : ss.Pairwise fun a b => a.id < b.id) (d : Nat) : (partsF ss d).Nodup := by
  have hn := nodup_sorted hs
  unfold partsF
  refine List.nodup_append.2 ⟨?_, ?_, fun x hx y hy e => ?_⟩
  · refine hn.sublist ?_
    simp only [cycN, List.take_length, idsOf]
    exact List.Sublist.map _ List.filter_sublist
  · have h1 : (topsF ss).Pairwise fun a b => a ∈ topsF ss ∧ b ∈ topsF ss := List.pairwise_of_forall_mem_list fun a ha b hb => ⟨ha, hb⟩
    refine List.pairwise_flatMap.2 ⟨fun a _ => subF_nodup _ a, ((lev_nodup hn 0).and h1).imp fun {a b} ⟨hab, ha, hb⟩ x hx y hy e => ?_⟩
    subst e
    exact hab (desc_one hn ha hb ((subF_mem hs (tops_ids ha)).1 hx) ((subF_mem hs (tops_ids hb)).1 hy))
  · subst e
    obtain ⟨a, ha, hx'⟩ := List.mem_flatMap.1 hy
    obtain ⟨k, hk⟩ := desc_lev ha ((subF_mem hs (tops_ids ha)).1 hx')
    exact ((cyc_mem hn).1 hx).2 k hk
theorem parts_sort {ss : List Spn} (hs : ss.Pairwise fun a b => a.id < b.id) (d : Nat) : sortU (partsF ss d) = idsOf ss := by
  refine lt_uniI (sortU_srt _) ?_ fun y => by rw [sortU_mem, parts_mem hs]
  unfold idsOf
  rw [List.pairwise_map]
  exact hs
theorem parts_len {ss : List Spn} (hs : ss.Pairwise fun a b => a.id < b.id) (d : Nat) : (partsF ss d).length = ss.length := by
  have h := ((List.perm_ext_iff_of_nodup (parts_nodup hs d) (nodup_sorted hs)).2 fun x => parts_mem hs d).length_eq
  rw [h]
  unfold idsOf
  rw [List.length_map]
end Go.Proofs.YtigenjeealkdlaaGreat
namespace Go.Proofs.YtigenjeealkdlaaGreat
open Go.RowKit Go.Exe
theorem ofS_len (l : List Spn) (t : Int) : (ofS l t).length ≤ l.length := by
  have h1 : (ofS l t).Nodup := (ofS_srt l t).imp fun {a b} h e => by subst e; omega
  exact h1.length_le_of_subset fun s h => (ofS_mem h).1
theorem fam_len (l : List Fm) (t : Int) : (ofS (famL l) t).length ≤ 12 := Nat.le_trans (ofS_len _ t) (famL_len l)
theorem fam_id (l : List Fm) (t : Int) : ∀ s ∈ ofS (famL l) t, I64 s.tr ∧ I64 s.id ∧ I64 s.pa := fun s h => fam_I l s (ofS_mem h).1
theorem famT_ch {ss : List Spn} (h : ∀ s ∈ ss, I64 s.id) (t : Int) : ∀ n ∈ (treeOf t ss).nds, ∀ c ∈ n.ch, I64 c := fun n hn c hc => by
  obtain ⟨s, hs, rfl⟩ := List.mem_map.1 hn
  obtain ⟨s', hs', rfl, _⟩ := mem_kids.1 hc
  exact h s' hs'
theorem treeOf_ok {ss : List Spn} (h : ss.Pairwise fun a b => a.id < b.id) (t : Int) : (treeOf t ss).nds.Pairwise fun a b => a.id < b.id := by
  unfold treeOf nodesD
  rw [List.pairwise_map]
  exact h
attribute [local irreducible] W AX Run RunD AStep AOp AOpX AStB AStH AStG Fits PCall GCall PostG Post Stop
theorem parts_c (c144 : SortC Tryz.prog 144 14) (c85 : SortI Tryz.prog 85) (g84 : GrowC Tryz.prog 84 3 1 8) (g122 : GrowC Tryz.prog 122 88 14 168) (l : List Fm) (hl : ∀ q ∈ l, FmOk q) : PCall Tryz.prog 3 [famT l] (ft (.bool true)) := by
  have c12 := known_c c144 c85 g84 g122
  have c14 := family_c l hl
  have hsrt := ofS_srt (famL l) 1
  have hI := fam_id l 1
  have hlen := fam_len l 1
  have c13 := build_c c144 c85 g84 (famL l) 1 (nodup_sorted hsrt) (fun s hs => (hI s hs).2)
  generalize ofS (famL l) 1 = ss at *
  have hok := treeOf_ok hsrt 1
  have hch := famT_ch (fun s hs => (hI s hs).2.1) 1
  have hnl : (treeOf 1 ss).nds.length = ss.length := nodesD_len
  have c15 := fun x hx => subtree_c (treeOf 1 ss) hok hch x hx (by rw [hnl]; omega)
  have hnds : (treeOf 1 ss).nds = nodesD ss ss.length := rfl
  have htop : (treeOf 1 ss).roots ++ (treeOf 1 ss).orph = topsF ss := rfl
  have hcyc : (treeOf 1 ss).cyc = cycN ss ss.length := rfl
  have hpl := parts_len hsrt ss.length
  have hps := parts_sort hsrt ss.length
  unfold partsF at hpl hps
  have htl := lev_le (nodup_sorted hsrt) 0
  rw [show lev ss 0 = topsF ss from rfl] at htl
  have htI : ∀ x ∈ topsF ss, I64 x := fun x hx => by
    obtain ⟨s, hs, rfl⟩ := List.mem_map.1 (tops_ids hx)
    exact (hI s hs).2.1
  generalize treeOf 1 ss = T at *
  have hcl := cycN_le ss ss.length
  rw [← hcyc] at hcl hpl hps
  rw [← hnds] at hpl hps
  have hrl : T.roots.length + T.orph.length ≤ 12 := by rw [← List.length_append, htop]; omega
  have b1 : T.cyc.length * 8 ≤ 140737488355328 := by omega
  have b2 : T.roots.length * 8 ≤ 140737488355328 := by omega
  have b3 : (T.roots.length + T.orph.length) * 8 ≤ 140737488355328 := by omega
  simp only [trT, trA, List.map] at c13 c15
  clear c144 c85 g84 g122 hl
  refine PCall.intro (nt := 71) (rs := [.tmp 2]) Tryz.func3 rfl ⟨by kernel_rfl, by kernel_rfl, by kernel_rfl⟩ (by simp) ?_
  rintro ⟨P, w0, ok0, may, np, pblk⟩ rfl rfl
  repeat' (first | refine W.seq fun K hK => ?_ | refine W.block ?_ | ((first | refine wR ?_ | refine wD ?_ | refine W.skip ?_ | refine W.exit ?_ | refine W.ret (Post.ret ?_) | refine aP ?_ | refine aF ?_ | refine aL ?_ | refine aU (hnn := by simp only [go_sem, reduceCtorEq, b1, b2, b3, List.length_map, imR_len]) ?_ | refine aM ?_ | refine aN ?_ | refine aR ?_); simp only [go_sem, reduceCtorEq, b1, b2, b3, List.length_map, imR_len]) | refine wT ?_ | refine wF ?_ | refine wC (fun h => ?_) (fun h => ?_) | refine iK ?_ | refine aI2 ?_ | (refine hK _ ?_; clear hK K) | clear hK K)
  obtain ⟨al, hal⟩ : ∃ al : Nat → List Int, al = fun i => T.cyc ++ ((topsF ss).take i).flatMap (subF T.nds) := ⟨_, rfl⟩
  have hal0 : al 0 = T.cyc := by rw [hal]; simp
  have hals : ∀ i x, (topsF ss)[i]? = some x → al (i + 1) = al i ++ subF T.nds x := fun i x hx => by rw [hal]; simp [List.take_add_one, hx, List.flatMap_append, List.append_assoc]
  have hale : al (topsF ss).length = T.cyc ++ (topsF ss).flatMap (subF T.nds) := by rw [hal]; simp
  have hall : ∀ i, (al i).length ≤ 12 := fun i => by
    have h1 : (al i).length ≤ (T.cyc ++ (topsF ss).flatMap (subF T.nds)).length := by
      have h2 := List.take_append_drop i (topsF ss)
      rw [hal]
      simp only [List.length_append]
      rw [show (topsF ss).flatMap (subF T.nds) = ((topsF ss).take i).flatMap (subF T.nds) ++ ((topsF ss).drop i).flatMap (subF T.nds) by rw [← List.flatMap_append, h2], List.length_append]
      omega
    omega
  rw [← hale] at hpl hps
  obtain ⟨bx, hbx⟩ : ∃ bx : Exe.Obj, bx = Exe.Obj.box 28 [.im (.flat (.int .i64 T.tr)), .im (.sl 35 (T.nds.map ndA)), .im (.sl 3 (T.roots.map iA)), .im (.sl 3 (T.orph.map iA)), .im (.sl 3 (T.cyc.map iA)), .im (.sl 3 (T.miss.map iA))] := ⟨_, rfl⟩
  have htr : imR (T.roots.map iA) ++ imR (T.orph.map iA) = imR ((topsF ss).map iA) := by rw [← htop]; simp [imR]
  refine W.loopF (T := fun i : Nat => { t := [(3, .c (.ptr 0 0)), (4, .c (.ref 1)), (5, .c (.ref 2)), (6, ft (.int .i64 (i : Nat)))], h := [(0, bx), (1, .row 3 (imR ((al i).map iA))), (2, .row 3 (imR ((topsF ss).map iA)))], nx := 3, ex := [], nt := 71 })
    (Inv := fun i => i ≤ (topsF ss).length) (μ := fun i => (topsF ss).length - i) (x0 := 0) ?_ (Nat.zero_le _) ?_
  · refine Fits.fit [(6, 0), (11, 1), (19, 2)] [3, 4, 5, 6] 3 rfl rfl ?_
    simp only [go_sem, hal0, hbx, htr]
    exact Fits.rfl
  rintro i hi KL hKL
  by_cases hlt : i < (topsF ss).length
  · obtain ⟨x, hx, hm, _⟩ := drop_at hlt
    have c15 := c15 x (htI x hm)
    have e1 : decide ((i : Int) < (topsF ss).length) = true := by simp; omega
    have e2 : decide (i < (topsF ss).length) = true := by simp; omega
    have hw := w64s i (by omega)
    have b4 : ((al i).length + (subF T.nds x).length) * 8 ≤ 140737488355328 := by have := hall (i + 1); rw [hals i x hx, List.length_append] at this; omega
    have hrow : imR ((al i).map iA) ++ imR ((subF T.nds x).map iA) = imR ((al (i + 1)).map iA) := by rw [hals i x hx]; simp [imR]
    subst hbx
    repeat' (first | refine W.seq fun K hK => ?_ | refine W.block ?_ | ((first | refine wR ?_ | refine wD ?_ | refine W.skip ?_ | refine W.exit ?_ | refine W.ret (Post.ret ?_) | refine aP ?_ | refine aF ?_ | refine aL ?_ | refine aU (hnn := by simp only [go_sem, reduceCtorEq, List.getElem?_map, hx, iA, e1, e2, hw, b4, List.length_map, imR_len, imR_get, imL, List.map]) ?_ | refine aM ?_ | refine aN ?_ | refine aR ?_); simp only [go_sem, reduceCtorEq, List.getElem?_map, hx, iA, e1, e2, hw, b4, List.length_map, imR_len, imR_get, imL, List.map]) | refine wT ?_ | refine wF ?_ | refine wC (fun h => ?_) (fun h => ?_) | refine iK ?_ | refine aI2 ?_ | (refine hK _ ?_; clear hK K) | clear hK K)
    refine hKL.to (i + 1) (by omega) (by omega) ?_
    refine Fits.fit [(0, 0), (14, 1), (2, 2)] [3, 4, 5, 6] 3 rfl rfl ?_
    simp only [go_sem, hrow]
    exact Fits.rfl
  · obtain rfl : i = (topsF ss).length := by omega
    have e1 : decide (((topsF ss).length : Int) < (topsF ss).length) = false := by simp
    have c16 := sorted16_c (al (topsF ss).length)
    rw [hps] at c16
    have hil : (idsOf ss).length = ss.length := by simp [idsOf]
    have e2 : (((ss.length : Nat) : Int) != (ss.length : Nat)) = false := by simp
    clear hKL
    subst hbx
    repeat' (first | refine W.seq fun K hK => ?_ | refine W.block ?_ | ((first | refine wR ?_ | refine wD ?_ | refine W.skip ?_ | refine W.exit ?_ | refine W.ret (Post.ret ?_) | refine aP ?_ | refine aF ?_ | refine aL ?_ | refine aU (hnn := by simp only [go_sem, reduceCtorEq, e1, hpl, e2, hil, hnl, List.length_map, imR_len]) ?_ | refine aM ?_ | refine aN ?_ | refine aR ?_); simp only [go_sem, reduceCtorEq, e1, hpl, e2, hil, hnl, List.length_map, imR_len]) | refine wT ?_ | refine wF ?_ | refine wC (fun h => ?_) (fun h => ?_) | refine iK ?_ | refine aI2 ?_ | (refine hK _ ?_; clear hK K) | clear hK K)
    refine W.loopF (T := fun i : Nat => { t := [(3, .c (.ptr 0 0)), (7, intsT (idsOf ss)), (8, ft (.int .i64 (i : Nat)))], h := [(0, .box 28 [.im (.flat (.int .i64 T.tr)), .im (.sl 35 (T.nds.map ndA)), .im (.sl 3 (T.roots.map iA)), .im (.sl 3 (T.orph.map iA)), .im (.sl 3 (T.cyc.map iA)), .im (.sl 3 (T.miss.map iA))])], nx := 1, ex := [], nt := 71 })
      (Inv := fun i => i ≤ ss.length) (μ := fun i => ss.length - i) (x0 := 0) ?_ (Nat.zero_le _) ?_
    · refine Fits.fit [(0, 0)] [3, 7, 8] 1 rfl rfl ?_
      simp only [go_sem]
      exact Fits.rfl
    rintro i hi KL hKL
    by_cases hlt : i < ss.length
    · obtain ⟨s, hs, hm, _⟩ := drop_at hlt
      have g1 : decide ((i : Int) < ss.length) = true := by simp; omega
      have g2 : decide (i < ss.length) = true := by simp; omega
      have hw := w64s i (by omega)
      have hid : (idsOf ss)[i]? = some s.id := by simp [idsOf, hs]
      have hnd : T.nds[i]? = some ⟨s.id, s.pa, depN ss ss.length s.id, kidsF ss s.id⟩ := by rw [hnds]; simp [nodesD, hs]
      have g3 : (s.id != s.id) = false := by simp
      repeat' (first | refine W.seq fun K hK => ?_ | refine W.block ?_ | ((first | refine wR ?_ | refine wD ?_ | refine W.skip ?_ | refine W.exit ?_ | refine W.ret (Post.ret ?_) | refine aP ?_ | refine aF ?_ | refine aL ?_ | refine aU (hnn := by simp only [go_sem, reduceCtorEq, List.getElem?_map, hid, hnd, ndA, iA, hil, hnl, g1, g2, g3, hw, List.length_map, imL, List.map]) ?_ | refine aM ?_ | refine aN ?_ | refine aR ?_); simp only [go_sem, reduceCtorEq, List.getElem?_map, hid, hnd, ndA, iA, hil, hnl, g1, g2, g3, hw, List.length_map, imL, List.map]) | refine wT ?_ | refine wF ?_ | refine wC (fun h => ?_) (fun h => ?_) | refine iK ?_ | refine aI2 ?_ | (refine hK _ ?_; clear hK K) | clear hK K)
      refine hKL.to (i + 1) (by omega) (by omega) ?_
      refine Fits.fit [(0, 0)] [3, 7, 8] 1 rfl rfl ?_
      simp only [go_sem]
      exact Fits.rfl
    · obtain rfl : i = ss.length := by omega
      have g1 : decide ((ss.length : Int) < ss.length) = false := by simp
      clear hKL
      repeat' (first | refine W.seq fun K hK => ?_ | refine W.block ?_ | ((first | refine wR ?_ | refine wD ?_ | refine W.skip ?_ | refine W.exit ?_ | refine W.ret (Post.ret ?_) | refine aP ?_ | refine aF ?_ | refine aL ?_ | refine aU (hnn := by simp only [go_sem, reduceCtorEq, g1, hil, List.length_map]) ?_ | refine aM ?_ | refine aN ?_ | refine aR ?_); simp only [go_sem, reduceCtorEq, g1, hil, List.length_map]) | refine wT ?_ | refine wF ?_ | refine wC (fun h => ?_) (fun h => ?_) | refine iK ?_ | refine aI2 ?_ | (refine hK _ ?_; clear hK K) | clear hK K)
end Go.Proofs.YtigenjeealkdlaaGreat
namespace Go.Proofs.YtigenjeealkdlaaGreat
open Go.ChangeShapes Go.WideShapes Go.ChangeAt Go.RowKit Go.Exe
theorem Tryz.own : ownKnob Tryz.prog.godebug = none := by kernel_rfl
theorem Tryz.laidOut : laidOutB Tryz.prog = true := by kernel_rfl
theorem under4 : Tryz.prog.underlying 4 = some .bool := by kernel_rfl
theorem el23 : EL Tryz.prog 23 = some 93 := by kernel_rfl
/-! ### families that came in -/
theorem fm_in {f : Nat} {xs : List AV} (h : Typ Tryz.prog (f + 2) 93 xs) : ∃ q : Fm, FmOk q ∧ xs = famA q := by
  obtain ⟨offs, rfl, hol, ho⟩ := Typ.arr (n := 4) (e := 5) (by kernel_rfl) h
  match offs, hol with
  | [q1, q2, q3, q4], _ =>
    obtain ⟨a, rfl, ha⟩ := Typ.u8 tU5 (ho q1 (by simp))
    obtain ⟨b, rfl, hb⟩ := Typ.u8 tU5 (ho q2 (by simp))
    obtain ⟨c, rfl, hc⟩ := Typ.u8 tU5 (ho q3 (by simp))
    obtain ⟨d, rfl, hd⟩ := Typ.u8 tU5 (ho q4 (by simp))
    exact ⟨(a, b, c, d), ⟨ha, hb, hc, hd⟩, rfl⟩
theorem fam_in {f : Nat} {x : AV} (h : Typ Tryz.prog (f + 3) 23 [x]) : ∃ l : List Fm, (∀ q ∈ l, FmOk q) ∧ x = .sl 93 (l.map famA) := by
  obtain ⟨rows, hx, hr⟩ := Typ.sl el23 h
  cases hx
  obtain ⟨l, hl, rfl⟩ := rows_of (ok := FmOk) (enc := famA) fun r hr' => fm_in (hr r hr')
  exact ⟨l, hl, rfl⟩
end Go.Proofs.YtigenjeealkdlaaGreat
namespace Go.Proofs.YtigenjeealkdlaaGreat
open Go.ChangeShapes Go.WideShapes Go.ChangeAt Go.RowKit Go.Exe

def partsC : Prop := ∀ (x0 : AV), Typ Tryz.prog 6 23 [x0] → PCall Tryz.prog 3 [.c (.im x0)] (ft (.bool true))
theorem parts_lifted (hc : partsC) (os : Os) (started : os.Started) (H : Type) (enc : TypeId × Value → H) :
    ReturnsInHanded {} Tryz.checked os 3 .any (Rows.assemblyPartsSpec.pre6 enc Tryz.prog Tryz.f3 Rows.assemblyPartsRow.domain false) (Rows.assemblyPartsSpec.post enc Tryz.prog Tryz.f3 false Rows.assemblyPartsRow.fresh Rows.assemblyPartsRow.handsOn Rows.assemblyPartsRow.again) := by
  refine returnsInHanded_of_change_sized (C := Tryz.checked) Tryz.own started (by kernel_rfl) Tryz.func3
    (ChangeSpec.witness6 (enc := enc) (C := Tryz.checked) false ⟨#[], #[.slice none 0 0], []⟩ 8 (by kernel_rfl) (by kernel_rfl) (by kernel_rfl) (by kernel_rfl)) ?_
  intro W base args ds gs before hval0 hW _ hsz0 _
  have hsz : (DataW.weightsEach Tryz.prog (Tryz.f3.params.toList ++ Rows.assemblyPartsSpec.plain.varTypes Tryz.prog) (ds ++ gs)).all (· ≤ reachBytes) = true := hsz0
  clear hsz0
  have hval : ∀ (j : Nat) t v, Tryz.f3.params[j]? = some t → args[j]? = some v → Value.okWide Tryz.prog W .any base t v := hval0
  have hW' := hW
  obtain ⟨p, q, hA0, hV, rfl, hfz, hnd⟩ := hW
  have hA : DataW.TrodAll enc Tryz.prog W 0 (fun _ => true) true Tryz.f3.params.toList args.toList ds p := hA0
  rw [Tryz.params3] at hA hval hsz
  obtain ⟨v0, d0, rfl, rfl, h0⟩ := trodAll_one hA
  obtain ⟨rfl, rfl⟩ := trodVars_none hV
  clear hA0 hval0
  simp only [List.append_nil] at hW'
  obtain ⟨x0, r0, y0⟩ := arg_c (j := 0) 6 (by kernel_rfl) (by obtain ⟨z1, z2, z3, hz⟩ := okWide_slice rfl (hval 0 23 v0 rfl rfl); rw [hz]; rfl) h0 hsz rfl rfl
  have hlt : ∀ x ∈ p, x.block < W.heap.size := fun x hx => by simpa using hW'.lt x hx
  have hargs : ∀ (W' : World), Below W.heap.size W W' → DataW.TrodAll enc Tryz.prog W' 0 (fun b => decide (b < W.heap.size)) true Tryz.f3.params.toList [v0] [d0] (p) := fun W' hn => by
    have k23 : ∀ {v d ps}, DataW.Trod enc Tryz.prog W 0 (fun _ => true) true 23 v d ps → (∀ x ∈ ps, x.block < W.heap.size) → DataW.Trod enc Tryz.prog W' 0 (fun b => decide (b < W.heap.size)) true 23 v d ps :=
      fun h hl => Below.trod Tryz.laidOut (by kernel_rfl) (of_decide_eq_true (by kernel_rfl)) h hn hl
    rw [Tryz.params3]
    exact trodAll_mk1 (k23 h0 fun x hx => hlt x (by simp [hx]))
  have hcall := (hc x0 y0).2 (fun _ => True) W [v0] (Al.cons r0 Al.nil)
  refine hcall.mono fun e W' ⟨v, he, ⟨hB, _⟩, hr⟩ => ?_
  subst he
  obtain rfl : v = .bool true := RepA.flat_eq hr
  refine ⟨_, rfl, _, _, _, [], p, [], hW', ?_, ?_, ?_, hB.frame _, fun h => by cases h⟩
  · exact trodAll_mk1 (shut_bool under4 true)
  · exact hargs W' hB
  · rfl
theorem parts_holds (hc : partsC) : Rows.AssemblyPartsSaid :=
  OpenClaim.holds_of_wide 3 Tryz.f3 rfl rfl rfl rfl rfl rfl rfl ⟨rfl, rfl, rfl, rfl, rfl⟩ rfl rfl rfl rfl rfl (by kernel_rfl) Tryz.func3 (by kernel_rfl)
    (of_decide_eq_true (by kernel_rfl)) (by unfold Func.isWrapper; rw [if_neg (by decide +kernel)]; exact ⟨rfl, rfl⟩)
    (fun os started H enc _ => parts_lifted hc os started H enc)
end Go.Proofs.YtigenjeealkdlaaGreat
namespace Go.Proofs.YtigenjeealkdlaaGreat
open Go.RowKit Go.Exe
theorem ytigenjeealkdlaagreat_assemblyParts_holds : Rows.AssemblyPartsSaid := parts_holds fun x0 h0 => by
  obtain ⟨l, hl, rfl⟩ := fam_in (f := 3) h0
  exact parts_c sort144_c sort85_c grow84_c grow122_c l hl
end Go.Proofs.YtigenjeealkdlaaGreat
