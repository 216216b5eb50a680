import Derived.Test.YtegcmciglakicaaM4
import Derived.Test.YtegcmciglakicaaM3
import Derived.Test.YtegcmciglakicaaM2
import Derived.Sort.Walk0
import Derived.Shelf.SlSortCmp.WholeK
import Derived.Shelf.SlSortCmp.NoneTotal
import Derived.Test.YtegcmciglakicaaProg
import Derived.Shelf.SlLaysF0
import Derived.Shelf.SlGeneric
import Derived.Ground.SlsfProg
import Derived.Test.YtegcmciglakicaaRows
import Derived.ProofKit
import Derived.Carry
import Derived.SizedLaws
namespace Go.Proofs.Ytegcmciglakicaa
open Go.RowKit Go.Exe
set_option linter.unusedVariables false
set_option linter.unusedSimpArgs false
set_option maxHeartbeats 1000000
set_option maxRecDepth 100000
attribute [local irreducible] W AX Run RunD AStep AOp AOpX AStB AStH AStG Fits PCall GCall PostG Post Stop

instance : Inhabited Dl := ⟨([], 0)⟩
def dA (ds : List Dl) : List (Value × Bool × List AV) := ds.map fun d => (pkey d.1, false, [.pt (dlA d)])
theorem dE_close (ds : List Dl) : closeE (dE ds) = some (dA ds) := closeE_map _ _ (fun x => ⟨rfl, rfl, by simp [closeL, closeC]⟩) ds
def selD (ds : List Dl) (seen : List Nat) : List Dl := (seen.map fun j => ds.getD j default).filter fun d => d.2 != 0
theorem selD_add {ds : List Dl} {seen : List Nat} {j : Nat} {d : Dl} (h : ds[j]? = some d) (hd : d.2 ≠ 0) : selD ds (seen ++ [j]) = selD ds seen ++ [d] := by
  simp [selD, List.getD_eq_getElem?_getD, h, hd]
theorem selD_skip {ds : List Dl} {seen : List Nat} {j : Nat} {d : Dl} (h : ds[j]? = some d) (hd : d.2 = 0) : selD ds (seen ++ [j]) = selD ds seen := by
  simp [selD, List.getD_eq_getElem?_getD, h, hd]
theorem seen_perm {n : Nat} {seen : List Nat} (hn : seen.Nodup) (hb : ∀ j ∈ seen, j < n) (ha : ∀ j, j < n → j ∈ seen) : seen.Perm (List.range n) :=
  (List.perm_ext_iff_of_nodup hn List.nodup_range).2 fun j => by rw [List.mem_range]; exact ⟨hb j, ha j⟩
theorem range_getD (ds : List Dl) : (List.range ds.length).map (fun j => ds.getD j default) = ds := by
  apply List.ext_getElem?
  intro i
  rw [List.getElem?_map]
  by_cases h : i < ds.length
  · rw [List.getElem?_range h]; simp [List.getD_eq_getElem?_getD, h]
  · rw [List.getElem?_eq_none (by simpa using h), List.getElem?_eq_none (by simpa using h)]; rfl
theorem seen_le : ∀ {n : Nat} {seen : List Nat}, seen.Nodup → (∀ j ∈ seen, j < n) → seen.length ≤ n
  | 0, seen, _, hb => by
    cases seen with
    | nil => simp
    | cons x l => exact absurd (hb x (by simp)) (by omega)
  | n + 1, seen, hn, hb => by
    have := seen_le (n := n) (hn.erase n) fun j hj => by
      have := (hn.mem_erase_iff).1 hj
      have := hb j this.2
      omega
    rw [List.length_erase] at this
    split at this <;> omega
theorem selD_perm {ds : List Dl} {seen : List Nat} (hn : seen.Nodup) (hb : ∀ j ∈ seen, j < ds.length) (ha : ∀ j, j < ds.length → j ∈ seen) : (selD ds seen).Perm (ds.filter fun d => d.2 != 0) := by
  have := ((seen_perm hn hb ha).map fun j => ds.getD j default).filter fun d => d.2 != 0
  rw [range_getD] at this
  exact this
theorem list_c (c55 : SortC Try.prog 55 2) (cOr : ∀ l : List Int, PCall Try.prog 48 [.c (.im (.sl 3 (l.map iA)))] (ft (.int .i64 (orL l)))) (ds zs : List Dl) (hlen : ds.length * 32 ≤ 140737488355328)
    (hord : ∀ l : List Dl, l.Perm (ds.filter fun d => d.2 != 0) → OrdOn (fun a b : Dl => cmpPath a.1 b.1) l) (hz : zs.Perm (ds.filter fun d => d.2 != 0)) (huni : ∀ zs' : List Dl, zs'.Perm zs → zs'.Pairwise (fun a b => ¬ cmpPath b.1 a.1 < 0) → zs' = zs) :
    PCall Try.prog 39 [.c (.im (.mp 9 (dA ds)))] (.c (.im (.sl 38 (zs.map dlA)))) := by
  have c56 := fun a b : Dl => listCmp_c cOr a b
  refine PCall.intro (nt := 26) (rs := [.tmp 2]) Try.func39 rfl ⟨by kernel_rfl, by kernel_rfl, by kernel_rfl⟩ (by simp) ?_
  rintro ⟨P, w0, ok0, may, np, pblk⟩ rfl rfl
  repeat' (first
    | ((show W _ _ _ _); first | (refine W.seq fun K hK => ?_) | refine W.block ?_ | (refine W.reg rfl ?_; simp only [go_sem, reduceCtorEq]) | (refine W.regD Try_mo rfl rfl ?_; simp only [go_sem, reduceCtorEq]) | (refine W.skip ?_; simp only [go_sem]) | (refine W.exit ?_; simp only [go_sem]) | (refine W.ret (Post.ret ?_); simp only [go_sem, reduceCtorEq]) | refine W.condT rfl ?_ | refine W.condF rfl ?_ | refine W.cond rfl (fun h => ?_) (fun h => ?_))
    | ((show AX _ _ _ _ _); first | (refine AX.pcall rfl rfl (by simp only [go_sem, unim_im]; rfl) (by solve_by_elim) rfl rfl ?_; simp only [go_sem, reduceCtorEq]) | (refine AX.pcallF rfl rfl (by simp only [go_sem, unim_im]; rfl) (by simp only [go_sem, unim_im]; rfl) (by solve_by_elim) rfl rfl ?_; simp only [go_sem, reduceCtorEq]) | (refine AX.lookup rfl (by first | exact tM65 | exact tM66) (by first | exact tG2 | exact tG3 | exact tG4 | exact tG5 | exact tG7 | exact tG9 | exact tG12 | exact tG13 | exact tG18 | exact tG19 | exact tG20 | exact tG21 | exact tG22 | exact tG23 | exact tG25 | exact tG26 | exact tG27 | exact tG34 | exact tG36 | exact tG37 | exact tG38 | exact tG46 | exact tG49 | exact tG50 | exact tG51 | exact tG58 | exact tG59 | exact tG65 | exact tG66 | exact tG69 | exact tG70 | exact tG72 | exact tG74 | exact tG75 | exact tG79 | exact tG80 | exact tG87 | exact tG90 | exact tG95 | exact tG96 | exact tG100 | exact tG103 | exact tG111 | exact tG117 | exact tG121 | exact tG128 | exact tG134 | exact tG142 | exact tG145 | exact tG148) (by first | exact kd9) rfl rfl rfl (by assumption) rfl ?_; simp only [go_sem, reduceCtorEq]) | (refine AX.mapUpdate rfl rfl (by first | exact tM65 | exact tM66) (by first | exact kd9) rfl rfl rfl (by assumption) rfl (by simp only [go_sem, reduceCtorEq]) ?_; simp only [go_sem, reduceCtorEq]) | (refine AX.makeMap rfl (by first | exact tM65 | exact tM66) rfl ?_; simp only [go_sem, reduceCtorEq]) | (refine AX.lenMap rfl (by first | exact tM65 | exact tM66) rfl rfl rfl ?_; simp only [go_sem, reduceCtorEq]) | (refine AX.range rfl (by first | exact tM65 | exact tM66) rfl rfl rfl ?_; simp only [go_sem, reduceCtorEq]) | (refine AX.appendStr rfl (by first | exact tL22 | exact tL23 | exact tL25 | exact tL34 | exact tL36 | exact tL50 | exact tL100) (by simp only [go_sem]) (by simp only [go_sem]) (by simp only [go_sem]) rfl rfl rfl rfl (by simp only [go_sem, reduceCtorEq]; first | omega | (simp; omega)) ?_; simp only [go_sem, reduceCtorEq]) | (refine AX.shr rfl rfl rfl rfl (by first | decide | omega) ?_; simp only [go_sem, reduceCtorEq]) | (refine AX.shl rfl rfl rfl rfl (by first | decide | omega) ?_; simp only [go_sem, reduceCtorEq]) | (refine AX.bits rfl rfl rfl (by assumption) rfl ?_; simp only [go_sem, reduceCtorEq]) | (refine AX.nilSl rfl (by first | exact tL22 | exact tL23 | exact tL25 | exact tL34 | exact tL36 | exact tL50 | exact tL100) (by first | exact .inl rfl | exact .inr rfl) rfl rfl rfl ?_; simp only [go_sem, reduceCtorEq]))
    | ((show indepK _ _ _ _ = true ∧ _); refine And.intro (by kernel_rfl) ?_)
    | ((show _ ∧ _); refine And.intro (by first | omega | assumption | (simp only [go_sem]; omega) | (simp; omega) | (simp; done)) ?_)
    | (refine hK _ ?_; clear hK K)
    | (clear hK K; refine hK _ ?_; clear hK K)
    | (clear hK K; clear hK K; refine hK _ ?_; clear hK K)
    | (clear hK K; clear hK K; clear hK K; refine hK _ ?_; clear hK K)
    | fail)
  refine W.loopF (T := fun seen : List Nat => { t := [(3, .c (.ref 1)), (7, .c (.ptr 0 0))], h := [(0, .itf 9 (dA ds) seen), (1, .row 38 (imR ((selD ds seen).map dlA)))], nx := 2, ex := [], nt := 26 })
    (Inv := fun seen => seen.Nodup ∧ ∀ j ∈ seen, j < ds.length) (μ := fun seen => ds.length - seen.length) (x0 := []) (Fits.fit [(3, 0)] [3, 7] 1 rfl rfl ?_) ⟨List.nodup_nil, by simp⟩ ?_
  · simp only [go_sem]
    refine Fits.adopt 3 1 38 rfl rfl rfl tE38 rfl ?_
    refine Fits.fit [(0, 0), (1, 1)] [3, 7] 2 rfl rfl ?_
    simp only [go_sem, selD, List.map_nil, List.filter_nil, imR_nil]
    exact Fits.rfl
  rintro seen ⟨hnd, hbd⟩ KL hKL
  repeat' (first
    | ((show W _ _ _ _); first | refine W.stop (id := 3) ?_ | (refine W.seq fun K hK => ?_) | refine W.block ?_ | (refine W.reg rfl ?_; simp only [go_sem, reduceCtorEq]) | (refine W.regD Try_mo rfl rfl ?_; simp only [go_sem, reduceCtorEq]) | (refine W.skip ?_; simp only [go_sem]) | (refine W.exit ?_; simp only [go_sem]) | (refine W.ret (Post.ret ?_); simp only [go_sem, reduceCtorEq]) | refine W.condT rfl ?_ | refine W.condF rfl ?_ | refine W.cond rfl (fun h => ?_) (fun h => ?_))
    | ((show AX _ _ _ _ _); first | (refine AX.pcall rfl rfl (by simp only [go_sem, unim_im]; rfl) (by solve_by_elim) rfl rfl ?_; simp only [go_sem, reduceCtorEq]) | (refine AX.pcallF rfl rfl (by simp only [go_sem, unim_im]; rfl) (by simp only [go_sem, unim_im]; rfl) (by solve_by_elim) rfl rfl ?_; simp only [go_sem, reduceCtorEq]) | (refine AX.lookup rfl (by first | exact tM65 | exact tM66) (by first | exact tG2 | exact tG3 | exact tG4 | exact tG5 | exact tG7 | exact tG9 | exact tG12 | exact tG13 | exact tG18 | exact tG19 | exact tG20 | exact tG21 | exact tG22 | exact tG23 | exact tG25 | exact tG26 | exact tG27 | exact tG34 | exact tG36 | exact tG37 | exact tG38 | exact tG46 | exact tG49 | exact tG50 | exact tG51 | exact tG58 | exact tG59 | exact tG65 | exact tG66 | exact tG69 | exact tG70 | exact tG72 | exact tG74 | exact tG75 | exact tG79 | exact tG80 | exact tG87 | exact tG90 | exact tG95 | exact tG96 | exact tG100 | exact tG103 | exact tG111 | exact tG117 | exact tG121 | exact tG128 | exact tG134 | exact tG142 | exact tG145 | exact tG148) (by first | exact kd9) rfl rfl rfl (by assumption) rfl ?_; simp only [go_sem, reduceCtorEq]) | (refine AX.mapUpdate rfl rfl (by first | exact tM65 | exact tM66) (by first | exact kd9) rfl rfl rfl (by assumption) rfl (by simp only [go_sem, reduceCtorEq]) ?_; simp only [go_sem, reduceCtorEq]) | (refine AX.makeMap rfl (by first | exact tM65 | exact tM66) rfl ?_; simp only [go_sem, reduceCtorEq]) | (refine AX.lenMap rfl (by first | exact tM65 | exact tM66) rfl rfl rfl ?_; simp only [go_sem, reduceCtorEq]) | (refine AX.range rfl (by first | exact tM65 | exact tM66) rfl rfl rfl ?_; simp only [go_sem, reduceCtorEq]) | (refine AX.appendStr rfl (by first | exact tL22 | exact tL23 | exact tL25 | exact tL34 | exact tL36 | exact tL50 | exact tL100) (by simp only [go_sem]) (by simp only [go_sem]) (by simp only [go_sem]) rfl rfl rfl rfl (by simp only [go_sem, reduceCtorEq]; first | omega | (simp; omega)) ?_; simp only [go_sem, reduceCtorEq]) | (refine AX.shr rfl rfl rfl rfl (by first | decide | omega) ?_; simp only [go_sem, reduceCtorEq]) | (refine AX.shl rfl rfl rfl rfl (by first | decide | omega) ?_; simp only [go_sem, reduceCtorEq]) | (refine AX.bits rfl rfl rfl (by assumption) rfl ?_; simp only [go_sem, reduceCtorEq]) | (refine AX.nilSl rfl (by first | exact tL22 | exact tL23 | exact tL25 | exact tL34 | exact tL36 | exact tL50 | exact tL100) (by first | exact .inl rfl | exact .inr rfl) rfl rfl rfl ?_; simp only [go_sem, reduceCtorEq]))
    | ((show indepK _ _ _ _ = true ∧ _); refine And.intro (by kernel_rfl) ?_)
    | ((show _ ∧ _); refine And.intro (by first | omega | assumption | (simp only [go_sem]; omega) | (simp; omega) | (simp; done)) ?_)
    | (refine hK _ ?_; clear hK K)
    | (clear hK K; refine hK _ ?_; clear hK K)
    | (clear hK K; clear hK K; refine hK _ ?_; clear hK K)
    | (clear hK K; clear hK K; clear hK K; refine hK _ ?_; clear hK K)
    | fail)
  refine Stop.out ?_
  refine W.nextReg rfl rfl rfl rfl rfl rfl rfl rfl rfl rfl (fun j e he hj => ?_) (fun hall => ?_)
  · simp only [dA, List.getElem?_map, Option.map_eq_some_iff] at he
    obtain ⟨d, hd, rfl⟩ := he
    have hjl := (List.getElem?_eq_some_iff.1 hd).1
    have hn2 : (seen ++ [j]).Nodup := List.nodup_append.2 ⟨hnd, by simp, fun x hx y hy => by simp at hy; subst hy; exact fun e => hj (e ▸ hx)⟩
    have hb2 : ∀ i ∈ seen ++ [j], i < ds.length := fun i hi => by
      rcases List.mem_append.1 hi with h | h
      · exact hbd i h
      · simp at h; omega
    have hsl := seen_le hn2 hb2
    have hsa : (seen ++ [j]).length = seen.length + 1 := by simp
    have hed : (dA ds)[j]? = some (pkey d.1, false, [.pt (dlA d)]) := by simp [dA, hd]
    simp only [go_sem]
    repeat' (first
      | ((show W _ _ _ _); first | (refine W.seq fun K hK => ?_) | refine W.block ?_ | (refine W.reg rfl ?_; simp only [go_sem, reduceCtorEq]) | (refine W.regD Try_mo rfl rfl ?_; simp only [go_sem, reduceCtorEq]) | (refine W.skip ?_; simp only [go_sem]) | (refine W.exit ?_; simp only [go_sem]) | (refine W.ret (Post.ret ?_); simp only [go_sem, reduceCtorEq]) | refine W.condT rfl ?_ | refine W.condF rfl ?_ | refine W.cond rfl (fun h => ?_) (fun h => ?_))
      | ((show AX _ _ _ _ _); first | (refine AX.pcall rfl rfl (by simp only [go_sem, unim_im]; rfl) (by solve_by_elim) rfl rfl ?_; simp only [go_sem, reduceCtorEq]) | (refine AX.pcallF rfl rfl (by simp only [go_sem, unim_im]; rfl) (by simp only [go_sem, unim_im]; rfl) (by solve_by_elim) rfl rfl ?_; simp only [go_sem, reduceCtorEq]) | (refine AX.lookup rfl (by first | exact tM65 | exact tM66) (by first | exact tG2 | exact tG3 | exact tG4 | exact tG5 | exact tG7 | exact tG9 | exact tG12 | exact tG13 | exact tG18 | exact tG19 | exact tG20 | exact tG21 | exact tG22 | exact tG23 | exact tG25 | exact tG26 | exact tG27 | exact tG34 | exact tG36 | exact tG37 | exact tG38 | exact tG46 | exact tG49 | exact tG50 | exact tG51 | exact tG58 | exact tG59 | exact tG65 | exact tG66 | exact tG69 | exact tG70 | exact tG72 | exact tG74 | exact tG75 | exact tG79 | exact tG80 | exact tG87 | exact tG90 | exact tG95 | exact tG96 | exact tG100 | exact tG103 | exact tG111 | exact tG117 | exact tG121 | exact tG128 | exact tG134 | exact tG142 | exact tG145 | exact tG148) (by first | exact kd9) rfl rfl rfl (by assumption) rfl ?_; simp only [go_sem, reduceCtorEq]) | (refine AX.mapUpdate rfl rfl (by first | exact tM65 | exact tM66) (by first | exact kd9) rfl rfl rfl (by assumption) rfl (by simp only [go_sem, reduceCtorEq]) ?_; simp only [go_sem, reduceCtorEq]) | (refine AX.makeMap rfl (by first | exact tM65 | exact tM66) rfl ?_; simp only [go_sem, reduceCtorEq]) | (refine AX.lenMap rfl (by first | exact tM65 | exact tM66) rfl rfl rfl ?_; simp only [go_sem, reduceCtorEq]) | (refine AX.range rfl (by first | exact tM65 | exact tM66) rfl rfl rfl ?_; simp only [go_sem, reduceCtorEq]) | (refine AX.appendStr rfl (by first | exact tL22 | exact tL23 | exact tL25 | exact tL34 | exact tL36 | exact tL50 | exact tL100) (by simp only [go_sem]) (by simp only [go_sem]) (by simp only [go_sem]) rfl rfl rfl rfl (by simp only [go_sem, reduceCtorEq]; first | omega | (simp; omega)) ?_; simp only [go_sem, reduceCtorEq]) | (refine AX.shr rfl rfl rfl rfl (by first | decide | omega) ?_; simp only [go_sem, reduceCtorEq]) | (refine AX.shl rfl rfl rfl rfl (by first | decide | omega) ?_; simp only [go_sem, reduceCtorEq]) | (refine AX.bits rfl rfl rfl (by assumption) rfl ?_; simp only [go_sem, reduceCtorEq]) | (refine AX.nilSl rfl (by first | exact tL22 | exact tL23 | exact tL25 | exact tL34 | exact tL36 | exact tL50 | exact tL100) (by first | exact .inl rfl | exact .inr rfl) rfl rfl rfl ?_; simp only [go_sem, reduceCtorEq]))
      | ((show indepK _ _ _ _ = true ∧ _); refine And.intro (by kernel_rfl) ?_)
      | ((show _ ∧ _); refine And.intro (by first | omega | assumption | (simp only [go_sem]; omega) | (simp; omega) | (simp; done)) ?_)
      | (refine hK _ ?_; clear hK K)
      | (clear hK K; refine hK _ ?_; clear hK K)
      | (clear hK K; clear hK K; refine hK _ ?_; clear hK K)
      | (clear hK K; clear hK K; clear hK K; refine hK _ ?_; clear hK K)
      | fail)
    refine AX.entry rfl rfl rfl (j := j) (by simp) hed rfl rfl ?_
    simp only [go_sem, dlA, imL]
    have hsz : (selD ds seen).length ≤ seen.length := by
      have := List.length_filter_le (fun d : Dl => d.2 != 0) (seen.map fun j => ds.getD j default)
      rw [List.length_map] at this
      exact this
    by_cases hd0 : d.2 = 0
    · have e1 : (d.2 != 0) = false := by simp [hd0]
      repeat' (first
        | ((show W _ _ _ _); first | (refine W.seq fun K hK => ?_) | refine W.block ?_ | (refine W.reg rfl ?_; simp only [go_sem, reduceCtorEq, e1]) | (refine W.regD Try_mo rfl rfl ?_; simp only [go_sem, reduceCtorEq, e1]) | (refine W.skip ?_; simp only [go_sem]) | (refine W.exit ?_; simp only [go_sem]) | (refine W.ret (Post.ret ?_); simp only [go_sem, reduceCtorEq, e1]) | refine W.condT rfl ?_ | refine W.condF rfl ?_ | refine W.cond rfl (fun h => ?_) (fun h => ?_))
        | ((show AX _ _ _ _ _); first | (refine AX.pcall rfl rfl (by simp only [go_sem, unim_im]; rfl) (by solve_by_elim) rfl rfl ?_; simp only [go_sem, reduceCtorEq, e1]) | (refine AX.pcallF rfl rfl (by simp only [go_sem, unim_im]; rfl) (by simp only [go_sem, unim_im]; rfl) (by solve_by_elim) rfl rfl ?_; simp only [go_sem, reduceCtorEq, e1]) | (refine AX.lookup rfl (by first | exact tM65 | exact tM66) (by first | exact tG2 | exact tG3 | exact tG4 | exact tG5 | exact tG7 | exact tG9 | exact tG12 | exact tG13 | exact tG18 | exact tG19 | exact tG20 | exact tG21 | exact tG22 | exact tG23 | exact tG25 | exact tG26 | exact tG27 | exact tG34 | exact tG36 | exact tG37 | exact tG38 | exact tG46 | exact tG49 | exact tG50 | exact tG51 | exact tG58 | exact tG59 | exact tG65 | exact tG66 | exact tG69 | exact tG70 | exact tG72 | exact tG74 | exact tG75 | exact tG79 | exact tG80 | exact tG87 | exact tG90 | exact tG95 | exact tG96 | exact tG100 | exact tG103 | exact tG111 | exact tG117 | exact tG121 | exact tG128 | exact tG134 | exact tG142 | exact tG145 | exact tG148) (by first | exact kd9) rfl rfl rfl (by assumption) rfl ?_; simp only [go_sem, reduceCtorEq, e1]) | (refine AX.mapUpdate rfl rfl (by first | exact tM65 | exact tM66) (by first | exact kd9) rfl rfl rfl (by assumption) rfl (by simp only [go_sem, reduceCtorEq, e1]) ?_; simp only [go_sem, reduceCtorEq, e1]) | (refine AX.makeMap rfl (by first | exact tM65 | exact tM66) rfl ?_; simp only [go_sem, reduceCtorEq, e1]) | (refine AX.lenMap rfl (by first | exact tM65 | exact tM66) rfl rfl rfl ?_; simp only [go_sem, reduceCtorEq, e1]) | (refine AX.range rfl (by first | exact tM65 | exact tM66) rfl rfl rfl ?_; simp only [go_sem, reduceCtorEq, e1]) | (refine AX.appendStr rfl (by first | exact tL22 | exact tL23 | exact tL25 | exact tL34 | exact tL36 | exact tL50 | exact tL100) (by simp only [go_sem]) (by simp only [go_sem]) (by simp only [go_sem]) rfl rfl rfl rfl (by simp only [go_sem, reduceCtorEq, e1]; first | omega | (simp; omega)) ?_; simp only [go_sem, reduceCtorEq, e1]) | (refine AX.shr rfl rfl rfl rfl (by first | decide | omega) ?_; simp only [go_sem, reduceCtorEq, e1]) | (refine AX.shl rfl rfl rfl rfl (by first | decide | omega) ?_; simp only [go_sem, reduceCtorEq, e1]) | (refine AX.bits rfl rfl rfl (by assumption) rfl ?_; simp only [go_sem, reduceCtorEq, e1]) | (refine AX.nilSl rfl (by first | exact tL22 | exact tL23 | exact tL25 | exact tL34 | exact tL36 | exact tL50 | exact tL100) (by first | exact .inl rfl | exact .inr rfl) rfl rfl rfl ?_; simp only [go_sem, reduceCtorEq, e1]))
        | ((show indepK _ _ _ _ = true ∧ _); refine And.intro (by kernel_rfl) ?_)
        | ((show _ ∧ _); refine And.intro (by first | omega | assumption | (simp only [go_sem]; omega) | (simp; omega) | (simp; done)) ?_)
        | (refine hK _ ?_; clear hK K)
        | (clear hK K; refine hK _ ?_; clear hK K)
        | (clear hK K; clear hK K; refine hK _ ?_; clear hK K)
        | (clear hK K; clear hK K; clear hK K; refine hK _ ?_; clear hK K)
        | fail)
      refine hKL.to (seen ++ [j]) ⟨hn2, hb2⟩ (by omega) (Fits.fit [(0, 0), (1, 1)] [3, 7] 2 rfl rfl ?_)
      simp only [go_sem, selD_skip hd hd0]
      exact Fits.rfl
    · have e1 : (d.2 != 0) = true := by simp [hd0]
      repeat' (first
        | ((show W _ _ _ _); first | (refine W.seq fun K hK => ?_) | refine W.block ?_ | (refine W.reg rfl ?_; simp only [go_sem, reduceCtorEq, e1, imR_len, List.length_map]) | (refine W.regD Try_mo rfl rfl ?_; simp only [go_sem, reduceCtorEq, e1, imR_len, List.length_map]) | (refine W.skip ?_; simp only [go_sem]) | (refine W.exit ?_; simp only [go_sem]) | (refine W.ret (Post.ret ?_); simp only [go_sem, reduceCtorEq, e1, imR_len, List.length_map]) | refine W.condT rfl ?_ | refine W.condF rfl ?_ | refine W.cond rfl (fun h => ?_) (fun h => ?_))
        | ((show AX _ _ _ _ _); first | (refine AX.pcall rfl rfl (by simp only [go_sem, unim_im]; rfl) (by solve_by_elim) rfl rfl ?_; simp only [go_sem, reduceCtorEq, e1, imR_len, List.length_map]) | (refine AX.pcallF rfl rfl (by simp only [go_sem, unim_im]; rfl) (by simp only [go_sem, unim_im]; rfl) (by solve_by_elim) rfl rfl ?_; simp only [go_sem, reduceCtorEq, e1, imR_len, List.length_map]) | (refine AX.lookup rfl (by first | exact tM65 | exact tM66) (by first | exact tG2 | exact tG3 | exact tG4 | exact tG5 | exact tG7 | exact tG9 | exact tG12 | exact tG13 | exact tG18 | exact tG19 | exact tG20 | exact tG21 | exact tG22 | exact tG23 | exact tG25 | exact tG26 | exact tG27 | exact tG34 | exact tG36 | exact tG37 | exact tG38 | exact tG46 | exact tG49 | exact tG50 | exact tG51 | exact tG58 | exact tG59 | exact tG65 | exact tG66 | exact tG69 | exact tG70 | exact tG72 | exact tG74 | exact tG75 | exact tG79 | exact tG80 | exact tG87 | exact tG90 | exact tG95 | exact tG96 | exact tG100 | exact tG103 | exact tG111 | exact tG117 | exact tG121 | exact tG128 | exact tG134 | exact tG142 | exact tG145 | exact tG148) (by first | exact kd9) rfl rfl rfl (by assumption) rfl ?_; simp only [go_sem, reduceCtorEq, e1, imR_len, List.length_map]) | (refine AX.mapUpdate rfl rfl (by first | exact tM65 | exact tM66) (by first | exact kd9) rfl rfl rfl (by assumption) rfl (by simp only [go_sem, reduceCtorEq, e1, imR_len, List.length_map]) ?_; simp only [go_sem, reduceCtorEq, e1, imR_len, List.length_map]) | (refine AX.makeMap rfl (by first | exact tM65 | exact tM66) rfl ?_; simp only [go_sem, reduceCtorEq, e1, imR_len, List.length_map]) | (refine AX.lenMap rfl (by first | exact tM65 | exact tM66) rfl rfl rfl ?_; simp only [go_sem, reduceCtorEq, e1, imR_len, List.length_map]) | (refine AX.range rfl (by first | exact tM65 | exact tM66) rfl rfl rfl ?_; simp only [go_sem, reduceCtorEq, e1, imR_len, List.length_map]) | (refine AX.appendStr rfl (by first | exact tL22 | exact tL23 | exact tL25 | exact tL34 | exact tL36 | exact tL50 | exact tL100) (by simp only [go_sem]) (by simp only [go_sem]) (by simp only [go_sem]) rfl rfl rfl rfl (by simp only [go_sem, reduceCtorEq, e1, imR_len, List.length_map]; first | omega | (simp; omega)) ?_; simp only [go_sem, reduceCtorEq, e1, imR_len, List.length_map]) | (refine AX.shr rfl rfl rfl rfl (by first | decide | omega) ?_; simp only [go_sem, reduceCtorEq, e1, imR_len, List.length_map]) | (refine AX.shl rfl rfl rfl rfl (by first | decide | omega) ?_; simp only [go_sem, reduceCtorEq, e1, imR_len, List.length_map]) | (refine AX.bits rfl rfl rfl (by assumption) rfl ?_; simp only [go_sem, reduceCtorEq, e1, imR_len, List.length_map]) | (refine AX.nilSl rfl (by first | exact tL22 | exact tL23 | exact tL25 | exact tL34 | exact tL36 | exact tL50 | exact tL100) (by first | exact .inl rfl | exact .inr rfl) rfl rfl rfl ?_; simp only [go_sem, reduceCtorEq, e1, imR_len, List.length_map]))
        | ((show indepK _ _ _ _ = true ∧ _); refine And.intro (by kernel_rfl) ?_)
        | ((show _ ∧ _); refine And.intro (by first | omega | assumption | (simp only [go_sem]; omega) | (simp; omega) | (simp; done)) ?_)
        | (refine hK _ ?_; clear hK K)
        | (clear hK K; refine hK _ ?_; clear hK K)
        | (clear hK K; clear hK K; refine hK _ ?_; clear hK K)
        | (clear hK K; clear hK K; clear hK K; refine hK _ ?_; clear hK K)
        | fail)
      refine hKL.to (seen ++ [j]) ⟨hn2, hb2⟩ (by omega) (Fits.fit [(0, 0), (15, 1)] [3, 7] 2 rfl rfl ?_)
      simp only [go_sem, selD_add hd hd0, imR_sn2, List.map_append, List.map_cons, List.map_nil, dlA]
      exact Fits.rfl
  · simp only [go_sem]
    clear hKL
    have hall : ∀ j, j < ds.length → j ∈ seen := fun j hj => hall j (by simpa [dA] using hj)
    have hp := selD_perm hnd hbd hall
    repeat' (first
      | ((show W _ _ _ _); first | (refine W.seq fun K hK => ?_) | refine W.block ?_ | (refine W.reg rfl ?_; simp only [go_sem, reduceCtorEq]) | (refine W.regD Try_mo rfl rfl ?_; simp only [go_sem, reduceCtorEq]) | (refine W.skip ?_; simp only [go_sem]) | (refine W.exit ?_; simp only [go_sem]) | (refine W.ret (Post.ret ?_); simp only [go_sem, reduceCtorEq]) | refine W.condT rfl ?_ | refine W.condF rfl ?_ | refine W.cond rfl (fun h => ?_) (fun h => ?_))
      | ((show AX _ _ _ _ _); first | (refine AX.pcall rfl rfl (by simp only [go_sem, unim_im]; rfl) (by solve_by_elim) rfl rfl ?_; simp only [go_sem, reduceCtorEq]) | (refine AX.pcallF rfl rfl (by simp only [go_sem, unim_im]; rfl) (by simp only [go_sem, unim_im]; rfl) (by solve_by_elim) rfl rfl ?_; simp only [go_sem, reduceCtorEq]) | (refine AX.lookup rfl (by first | exact tM65 | exact tM66) (by first | exact tG2 | exact tG3 | exact tG4 | exact tG5 | exact tG7 | exact tG9 | exact tG12 | exact tG13 | exact tG18 | exact tG19 | exact tG20 | exact tG21 | exact tG22 | exact tG23 | exact tG25 | exact tG26 | exact tG27 | exact tG34 | exact tG36 | exact tG37 | exact tG38 | exact tG46 | exact tG49 | exact tG50 | exact tG51 | exact tG58 | exact tG59 | exact tG65 | exact tG66 | exact tG69 | exact tG70 | exact tG72 | exact tG74 | exact tG75 | exact tG79 | exact tG80 | exact tG87 | exact tG90 | exact tG95 | exact tG96 | exact tG100 | exact tG103 | exact tG111 | exact tG117 | exact tG121 | exact tG128 | exact tG134 | exact tG142 | exact tG145 | exact tG148) (by first | exact kd9) rfl rfl rfl (by assumption) rfl ?_; simp only [go_sem, reduceCtorEq]) | (refine AX.mapUpdate rfl rfl (by first | exact tM65 | exact tM66) (by first | exact kd9) rfl rfl rfl (by assumption) rfl (by simp only [go_sem, reduceCtorEq]) ?_; simp only [go_sem, reduceCtorEq]) | (refine AX.makeMap rfl (by first | exact tM65 | exact tM66) rfl ?_; simp only [go_sem, reduceCtorEq]) | (refine AX.lenMap rfl (by first | exact tM65 | exact tM66) rfl rfl rfl ?_; simp only [go_sem, reduceCtorEq]) | (refine AX.range rfl (by first | exact tM65 | exact tM66) rfl rfl rfl ?_; simp only [go_sem, reduceCtorEq]) | (refine AX.appendStr rfl (by first | exact tL22 | exact tL23 | exact tL25 | exact tL34 | exact tL36 | exact tL50 | exact tL100) (by simp only [go_sem]) (by simp only [go_sem]) (by simp only [go_sem]) rfl rfl rfl rfl (by simp only [go_sem, reduceCtorEq]; first | omega | (simp; omega)) ?_; simp only [go_sem, reduceCtorEq]) | (refine AX.shr rfl rfl rfl rfl (by first | decide | omega) ?_; simp only [go_sem, reduceCtorEq]) | (refine AX.shl rfl rfl rfl rfl (by first | decide | omega) ?_; simp only [go_sem, reduceCtorEq]) | (refine AX.bits rfl rfl rfl (by assumption) rfl ?_; simp only [go_sem, reduceCtorEq]) | (refine AX.nilSl rfl (by first | exact tL22 | exact tL23 | exact tL25 | exact tL34 | exact tL36 | exact tL50 | exact tL100) (by first | exact .inl rfl | exact .inr rfl) rfl rfl rfl ?_; simp only [go_sem, reduceCtorEq]))
      | ((show indepK _ _ _ _ = true ∧ _); refine And.intro (by kernel_rfl) ?_)
      | ((show _ ∧ _); refine And.intro (by first | omega | assumption | (simp only [go_sem]; omega) | (simp; omega) | (simp; done)) ?_)
      | (refine hK _ ?_; clear hK K)
      | (clear hK K; refine hK _ ?_; clear hK K)
      | (clear hK K; clear hK K; refine hK _ ?_; clear hK K)
      | (clear hK K; clear hK K; clear hK K; refine hK _ ?_; clear hK K)
      | fail)
    refine AX.sort (zs := zs) (cm := fun a b : Dl => cmpPath a.1 b.1) dlA rfl rfl rfl rfl rfl rfl tE38 (by decide) c55 (fun x _ y _ => c56 x y) (hord _ hp) (hz.trans hp.symm) (fun zs' h1 h2 => huni zs' (h1.trans (hp.trans hz.symm)) h2) rfl ?_
    simp only [go_sem]
    repeat' (first
      | ((show W _ _ _ _); first | (refine W.seq fun K hK => ?_) | refine W.block ?_ | (refine W.reg rfl ?_; simp only [go_sem, reduceCtorEq]) | (refine W.regD Try_mo rfl rfl ?_; simp only [go_sem, reduceCtorEq]) | (refine W.skip ?_; simp only [go_sem]) | (refine W.exit ?_; simp only [go_sem]) | (refine W.ret (Post.ret ?_); simp only [go_sem, reduceCtorEq]) | refine W.condT rfl ?_ | refine W.condF rfl ?_ | refine W.cond rfl (fun h => ?_) (fun h => ?_))
      | ((show AX _ _ _ _ _); first | (refine AX.pcall rfl rfl (by simp only [go_sem, unim_im]; rfl) (by solve_by_elim) rfl rfl ?_; simp only [go_sem, reduceCtorEq]) | (refine AX.pcallF rfl rfl (by simp only [go_sem, unim_im]; rfl) (by simp only [go_sem, unim_im]; rfl) (by solve_by_elim) rfl rfl ?_; simp only [go_sem, reduceCtorEq]) | (refine AX.lookup rfl (by first | exact tM65 | exact tM66) (by first | exact tG2 | exact tG3 | exact tG4 | exact tG5 | exact tG7 | exact tG9 | exact tG12 | exact tG13 | exact tG18 | exact tG19 | exact tG20 | exact tG21 | exact tG22 | exact tG23 | exact tG25 | exact tG26 | exact tG27 | exact tG34 | exact tG36 | exact tG37 | exact tG38 | exact tG46 | exact tG49 | exact tG50 | exact tG51 | exact tG58 | exact tG59 | exact tG65 | exact tG66 | exact tG69 | exact tG70 | exact tG72 | exact tG74 | exact tG75 | exact tG79 | exact tG80 | exact tG87 | exact tG90 | exact tG95 | exact tG96 | exact tG100 | exact tG103 | exact tG111 | exact tG117 | exact tG121 | exact tG128 | exact tG134 | exact tG142 | exact tG145 | exact tG148) (by first | exact kd9) rfl rfl rfl (by assumption) rfl ?_; simp only [go_sem, reduceCtorEq]) | (refine AX.mapUpdate rfl rfl (by first | exact tM65 | exact tM66) (by first | exact kd9) rfl rfl rfl (by assumption) rfl (by simp only [go_sem, reduceCtorEq]) ?_; simp only [go_sem, reduceCtorEq]) | (refine AX.makeMap rfl (by first | exact tM65 | exact tM66) rfl ?_; simp only [go_sem, reduceCtorEq]) | (refine AX.lenMap rfl (by first | exact tM65 | exact tM66) rfl rfl rfl ?_; simp only [go_sem, reduceCtorEq]) | (refine AX.range rfl (by first | exact tM65 | exact tM66) rfl rfl rfl ?_; simp only [go_sem, reduceCtorEq]) | (refine AX.appendStr rfl (by first | exact tL22 | exact tL23 | exact tL25 | exact tL34 | exact tL36 | exact tL50 | exact tL100) (by simp only [go_sem]) (by simp only [go_sem]) (by simp only [go_sem]) rfl rfl rfl rfl (by simp only [go_sem, reduceCtorEq]; first | omega | (simp; omega)) ?_; simp only [go_sem, reduceCtorEq]) | (refine AX.shr rfl rfl rfl rfl (by first | decide | omega) ?_; simp only [go_sem, reduceCtorEq]) | (refine AX.shl rfl rfl rfl rfl (by first | decide | omega) ?_; simp only [go_sem, reduceCtorEq]) | (refine AX.bits rfl rfl rfl (by assumption) rfl ?_; simp only [go_sem, reduceCtorEq]) | (refine AX.nilSl rfl (by first | exact tL22 | exact tL23 | exact tL25 | exact tL34 | exact tL36 | exact tL50 | exact tL100) (by first | exact .inl rfl | exact .inr rfl) rfl rfl rfl ?_; simp only [go_sem, reduceCtorEq]))
      | ((show indepK _ _ _ _ = true ∧ _); refine And.intro (by kernel_rfl) ?_)
      | ((show _ ∧ _); refine And.intro (by first | omega | assumption | (simp only [go_sem]; omega) | (simp; omega) | (simp; done)) ?_)
      | (refine hK _ ?_; clear hK K)
      | (clear hK K; refine hK _ ?_; clear hK K)
      | (clear hK K; clear hK K; refine hK _ ?_; clear hK K)
      | (clear hK K; clear hK K; clear hK K; refine hK _ ?_; clear hK K)
      | fail)
end Go.Proofs.Ytegcmciglakicaa
namespace Go.Proofs.Ytegcmciglakicaa
open Go.RowKit Go.Exe
set_option linter.unusedVariables false
set_option linter.unusedSimpArgs false
set_option maxHeartbeats 1000000
set_option maxRecDepth 100000
attribute [local irreducible] W AX Run RunD AStep AOp AOpX AStB AStH AStG Fits PCall GCall PostG Post Stop

theorem addD_len (p : List Nm) (b : Int) : ∀ ds : List Dl, (addD p b ds).length ≤ ds.length + 1
  | [] => by simp [addD]
  | d :: r => by
    have := addD_len p b r
    simp only [addD]
    split <;> simp <;> omega
mutual
theorem addS_len (b : Int) : ∀ (x : Shp) (above : List Nm) (ds : List Dl), (x.addS b above ds).length * 32 ≤ ds.length * 32 + x.tw
  | .mk s o ks, above, ds => by
    have h1 := addsS_len b ks (above ++ [(s, o)]) (addD (above ++ [(s, o)]) b ds)
    have h2 := addD_len (above ++ [(s, o)]) b ds
    simp only [Shp.addS, Shp.tw]
    omega
theorem addsS_len (b : Int) : ∀ (l : List Shp) (path : List Nm) (ds : List Dl), (addsS b l path ds).length * 32 ≤ ds.length * 32 + tws l
  | [], path, ds => by simp [addsS, tws]
  | x :: r, path, ds => by
    have h1 := addsS_len b r path (x.addS b path ds)
    have h2 := addS_len b x path ds
    simp only [addsS, tws]
    omega
end
theorem add_top (by_ : Int) (hby : IntKind.i64.wrap (0 + by_) = by_) (x : Shp) (ds : List Dl) (hn : (ds.map fun d => pkey d.1).Nodup) (hw : x.tw ≤ 140737488355328) :
    GCall Try.prog 38 1 (St.g [.c (.mp 0), shT x, ft (.slice none 0 0), ft (.int .i64 by_)] [(0, .map 9 (dE ds))] 1) (St.r (.t []) [(0, .map 9 (dE (x.addS by_ [] ds)))] 1) := by
  refine (add_all by_ hby x [] ds hn (by simpa [pathW] using hw)).fits ?_
  rintro ⟨P, w0, ok0, may, np, pblk⟩ rfl rfl
  obtain ⟨s, o, ks⟩ := x
  simp only [St.g, shT_mk]
  refine Fits.nilSl 2 59 rfl ?_
  refine Fits.fit [(0, 0)] [0, 1, 2, 3] 1 rfl rfl ?_
  simp only [go_sem, rnEs_dE, List.map_nil]
  exact Fits.rfl
def lsT (zs : List Dl) : TV := .c (.im (.sl 38 (zs.map dlA)))
theorem paths_c (x : Shp) (zs : List Dl) (hl : PCall Try.prog 39 [.c (.im (.mp 9 (dA (x.addS 1 [] []))))] (lsT zs)) (hw : x.tw ≤ 140737488355328) : PCall Try.prog 24 [shT x] (lsT zs) := by
  have hc := add_top 1 (by decide) x [] (by simp) hw
  have d0 : dE [] = [] := rfl
  rw [d0] at hc
  simp only [lsT] at *
  obtain ⟨s, o, ks⟩ := x
  simp only [shT_mk] at *
  generalize Shp.addS 1 (.mk s o ks) [] [] = ds at *
  refine PCall.intro (nt := 10) (rs := [.tmp 2]) Try.func24 rfl ⟨by kernel_rfl, by kernel_rfl, by kernel_rfl⟩ (by simp) ?_
  rintro ⟨P, w0, ok0, may, np, pblk⟩ rfl rfl
  repeat' (first
    | ((show W _ _ _ _); first | (refine W.seq fun K hK => ?_) | refine W.block ?_ | (refine W.reg rfl ?_; simp only [go_sem, reduceCtorEq]) | (refine W.regD Try_mo rfl rfl ?_; simp only [go_sem, reduceCtorEq]) | (refine W.skip ?_; simp only [go_sem]) | (refine W.exit ?_; simp only [go_sem]) | (refine W.ret (Post.ret ?_); simp only [go_sem, reduceCtorEq]) | refine W.condT rfl ?_ | refine W.condF rfl ?_ | refine W.cond rfl (fun h => ?_) (fun h => ?_))
    | ((show AX _ _ _ _ _); first | (refine AX.pcall rfl rfl (by simp only [go_sem, unim_im]; rfl) (by solve_by_elim) rfl rfl ?_; simp only [go_sem, reduceCtorEq]) | (refine AX.pcallF rfl rfl (by simp only [go_sem, unim_im]; rfl) (by simp only [go_sem, unim_im]; rfl) (by solve_by_elim) rfl rfl ?_; simp only [go_sem, reduceCtorEq]) | (refine AX.lookup rfl (by first | exact tM65 | exact tM66) (by first | exact tG2 | exact tG3 | exact tG4 | exact tG5 | exact tG7 | exact tG9 | exact tG12 | exact tG13 | exact tG18 | exact tG19 | exact tG20 | exact tG21 | exact tG22 | exact tG23 | exact tG25 | exact tG26 | exact tG27 | exact tG34 | exact tG36 | exact tG37 | exact tG38 | exact tG46 | exact tG49 | exact tG50 | exact tG51 | exact tG58 | exact tG59 | exact tG65 | exact tG66 | exact tG69 | exact tG70 | exact tG72 | exact tG74 | exact tG75 | exact tG79 | exact tG80 | exact tG87 | exact tG90 | exact tG95 | exact tG96 | exact tG100 | exact tG103 | exact tG111 | exact tG117 | exact tG121 | exact tG128 | exact tG134 | exact tG142 | exact tG145 | exact tG148) (by first | exact kd9) rfl rfl rfl (by assumption) rfl ?_; simp only [go_sem, reduceCtorEq]) | (refine AX.mapUpdate rfl rfl (by first | exact tM65 | exact tM66) (by first | exact kd9) rfl rfl rfl (by assumption) rfl (by simp only [go_sem, reduceCtorEq]) ?_; simp only [go_sem, reduceCtorEq]) | (refine AX.makeMap rfl (by first | exact tM65 | exact tM66) rfl ?_; simp only [go_sem, reduceCtorEq]) | (refine AX.lenMap rfl (by first | exact tM65 | exact tM66) rfl rfl rfl ?_; simp only [go_sem, reduceCtorEq]) | (refine AX.range rfl (by first | exact tM65 | exact tM66) rfl rfl rfl ?_; simp only [go_sem, reduceCtorEq]) | (refine AX.appendStr rfl (by first | exact tL22 | exact tL23 | exact tL25 | exact tL34 | exact tL36 | exact tL50 | exact tL100) (by simp only [go_sem]) (by simp only [go_sem]) (by simp only [go_sem]) rfl rfl rfl rfl (by simp only [go_sem, reduceCtorEq]; first | omega | (simp; omega)) ?_; simp only [go_sem, reduceCtorEq]) | (refine AX.shr rfl rfl rfl rfl (by first | decide | omega) ?_; simp only [go_sem, reduceCtorEq]) | (refine AX.shl rfl rfl rfl rfl (by first | decide | omega) ?_; simp only [go_sem, reduceCtorEq]) | (refine AX.bits rfl rfl rfl (by assumption) rfl ?_; simp only [go_sem, reduceCtorEq]) | (refine AX.nilSl rfl (by first | exact tL22 | exact tL23 | exact tL25 | exact tL34 | exact tL36 | exact tL50 | exact tL100) (by first | exact .inl rfl | exact .inr rfl) rfl rfl rfl ?_; simp only [go_sem, reduceCtorEq]))
    | ((show indepK _ _ _ _ = true ∧ _); refine And.intro (by kernel_rfl) ?_)
    | ((show _ ∧ _); refine And.intro (by first | omega | assumption | (simp only [go_sem]; omega) | (simp; omega) | (simp; done)) ?_)
    | (refine hK _ ?_; clear hK K)
    | (clear hK K; refine hK _ ?_; clear hK K)
    | (clear hK K; clear hK K; refine hK _ ?_; clear hK K)
    | (clear hK K; clear hK K; clear hK K; refine hK _ ?_; clear hK K)
    | fail)
  refine AX.gcall [2] rfl rfl (hc) (by simp only [go_sem, reduceCtorEq, rnEs_dE]) (by simp only [go_sem, reduceCtorEq, rnEs_dE]) rfl rfl (by simp only [go_sem, Obj.owns]) rfl (by simp only [go_sem, Obj.owns]) rfl rfl ?_
  simp only [go_sem, reduceCtorEq, rnEs_dE]
  repeat' (first
    | ((show W _ _ _ _); first | refine W.stop (id := 3) ?_ | (refine W.seq fun K hK => ?_) | refine W.block ?_ | (refine W.reg rfl ?_; simp only [go_sem, reduceCtorEq]) | (refine W.regD Try_mo rfl rfl ?_; simp only [go_sem, reduceCtorEq]) | (refine W.skip ?_; simp only [go_sem]) | (refine W.exit ?_; simp only [go_sem]) | (refine W.ret (Post.ret ?_); simp only [go_sem, reduceCtorEq]) | refine W.condT rfl ?_ | refine W.condF rfl ?_ | refine W.cond rfl (fun h => ?_) (fun h => ?_))
    | ((show AX _ _ _ _ _); first | (refine AX.pcall rfl rfl (by simp only [go_sem, unim_im]; rfl) (by solve_by_elim) rfl rfl ?_; simp only [go_sem, reduceCtorEq]) | (refine AX.pcallF rfl rfl (by simp only [go_sem, unim_im]; rfl) (by simp only [go_sem, unim_im]; rfl) (by solve_by_elim) rfl rfl ?_; simp only [go_sem, reduceCtorEq]) | (refine AX.lookup rfl (by first | exact tM65 | exact tM66) (by first | exact tG2 | exact tG3 | exact tG4 | exact tG5 | exact tG7 | exact tG9 | exact tG12 | exact tG13 | exact tG18 | exact tG19 | exact tG20 | exact tG21 | exact tG22 | exact tG23 | exact tG25 | exact tG26 | exact tG27 | exact tG34 | exact tG36 | exact tG37 | exact tG38 | exact tG46 | exact tG49 | exact tG50 | exact tG51 | exact tG58 | exact tG59 | exact tG65 | exact tG66 | exact tG69 | exact tG70 | exact tG72 | exact tG74 | exact tG75 | exact tG79 | exact tG80 | exact tG87 | exact tG90 | exact tG95 | exact tG96 | exact tG100 | exact tG103 | exact tG111 | exact tG117 | exact tG121 | exact tG128 | exact tG134 | exact tG142 | exact tG145 | exact tG148) (by first | exact kd9) rfl rfl rfl (by assumption) rfl ?_; simp only [go_sem, reduceCtorEq]) | (refine AX.mapUpdate rfl rfl (by first | exact tM65 | exact tM66) (by first | exact kd9) rfl rfl rfl (by assumption) rfl (by simp only [go_sem, reduceCtorEq]) ?_; simp only [go_sem, reduceCtorEq]) | (refine AX.makeMap rfl (by first | exact tM65 | exact tM66) rfl ?_; simp only [go_sem, reduceCtorEq]) | (refine AX.lenMap rfl (by first | exact tM65 | exact tM66) rfl rfl rfl ?_; simp only [go_sem, reduceCtorEq]) | (refine AX.range rfl (by first | exact tM65 | exact tM66) rfl rfl rfl ?_; simp only [go_sem, reduceCtorEq]) | (refine AX.appendStr rfl (by first | exact tL22 | exact tL23 | exact tL25 | exact tL34 | exact tL36 | exact tL50 | exact tL100) (by simp only [go_sem]) (by simp only [go_sem]) (by simp only [go_sem]) rfl rfl rfl rfl (by simp only [go_sem, reduceCtorEq]; first | omega | (simp; omega)) ?_; simp only [go_sem, reduceCtorEq]) | (refine AX.shr rfl rfl rfl rfl (by first | decide | omega) ?_; simp only [go_sem, reduceCtorEq]) | (refine AX.shl rfl rfl rfl rfl (by first | decide | omega) ?_; simp only [go_sem, reduceCtorEq]) | (refine AX.bits rfl rfl rfl (by assumption) rfl ?_; simp only [go_sem, reduceCtorEq]) | (refine AX.nilSl rfl (by first | exact tL22 | exact tL23 | exact tL25 | exact tL34 | exact tL36 | exact tL50 | exact tL100) (by first | exact .inl rfl | exact .inr rfl) rfl rfl rfl ?_; simp only [go_sem, reduceCtorEq]))
    | ((show indepK _ _ _ _ = true ∧ _); refine And.intro (by kernel_rfl) ?_)
    | ((show _ ∧ _); refine And.intro (by first | omega | assumption | (simp only [go_sem]; omega) | (simp; omega) | (simp; done)) ?_)
    | (refine hK _ ?_; clear hK K)
    | (clear hK K; refine hK _ ?_; clear hK K)
    | (clear hK K; clear hK K; refine hK _ ?_; clear hK K)
    | (clear hK K; clear hK K; clear hK K; refine hK _ ?_; clear hK K)
    | fail)
  refine Stop.out ?_
  refine W.fits (s' := { t := [(3, .c (.mp 2))], h := [(2, .fro (.mp 9 (dA ds)))], nx := 7, ex := [], nt := 10 }) (Fits.freezeM 2 rfl (dE_close ds) ?_) ?_
  · simp only [go_sem]
    refine Fits.fit [(2, 2)] [3] 7 rfl rfl ?_
    simp only [go_sem]
    exact Fits.rfl
  repeat' (first
    | ((show W _ _ _ _); first | (refine W.seq fun K hK => ?_) | refine W.block ?_ | (refine W.reg rfl ?_; simp only [go_sem, reduceCtorEq]) | (refine W.regD Try_mo rfl rfl ?_; simp only [go_sem, reduceCtorEq]) | (refine W.skip ?_; simp only [go_sem]) | (refine W.exit ?_; simp only [go_sem]) | (refine W.ret (Post.ret ?_); simp only [go_sem, reduceCtorEq]) | refine W.condT rfl ?_ | refine W.condF rfl ?_ | refine W.cond rfl (fun h => ?_) (fun h => ?_))
    | ((show AX _ _ _ _ _); first | (refine AX.pcall rfl rfl (by simp only [go_sem, unim_im]; rfl) (by solve_by_elim) rfl rfl ?_; simp only [go_sem, reduceCtorEq]) | (refine AX.pcallF rfl rfl (by simp only [go_sem, unim_im]; rfl) (by simp only [go_sem, unim_im]; rfl) (by solve_by_elim) rfl rfl ?_; simp only [go_sem, reduceCtorEq]) | (refine AX.lookup rfl (by first | exact tM65 | exact tM66) (by first | exact tG2 | exact tG3 | exact tG4 | exact tG5 | exact tG7 | exact tG9 | exact tG12 | exact tG13 | exact tG18 | exact tG19 | exact tG20 | exact tG21 | exact tG22 | exact tG23 | exact tG25 | exact tG26 | exact tG27 | exact tG34 | exact tG36 | exact tG37 | exact tG38 | exact tG46 | exact tG49 | exact tG50 | exact tG51 | exact tG58 | exact tG59 | exact tG65 | exact tG66 | exact tG69 | exact tG70 | exact tG72 | exact tG74 | exact tG75 | exact tG79 | exact tG80 | exact tG87 | exact tG90 | exact tG95 | exact tG96 | exact tG100 | exact tG103 | exact tG111 | exact tG117 | exact tG121 | exact tG128 | exact tG134 | exact tG142 | exact tG145 | exact tG148) (by first | exact kd9) rfl rfl rfl (by assumption) rfl ?_; simp only [go_sem, reduceCtorEq]) | (refine AX.mapUpdate rfl rfl (by first | exact tM65 | exact tM66) (by first | exact kd9) rfl rfl rfl (by assumption) rfl (by simp only [go_sem, reduceCtorEq]) ?_; simp only [go_sem, reduceCtorEq]) | (refine AX.makeMap rfl (by first | exact tM65 | exact tM66) rfl ?_; simp only [go_sem, reduceCtorEq]) | (refine AX.lenMap rfl (by first | exact tM65 | exact tM66) rfl rfl rfl ?_; simp only [go_sem, reduceCtorEq]) | (refine AX.range rfl (by first | exact tM65 | exact tM66) rfl rfl rfl ?_; simp only [go_sem, reduceCtorEq]) | (refine AX.appendStr rfl (by first | exact tL22 | exact tL23 | exact tL25 | exact tL34 | exact tL36 | exact tL50 | exact tL100) (by simp only [go_sem]) (by simp only [go_sem]) (by simp only [go_sem]) rfl rfl rfl rfl (by simp only [go_sem, reduceCtorEq]; first | omega | (simp; omega)) ?_; simp only [go_sem, reduceCtorEq]) | (refine AX.shr rfl rfl rfl rfl (by first | decide | omega) ?_; simp only [go_sem, reduceCtorEq]) | (refine AX.shl rfl rfl rfl rfl (by first | decide | omega) ?_; simp only [go_sem, reduceCtorEq]) | (refine AX.bits rfl rfl rfl (by assumption) rfl ?_; simp only [go_sem, reduceCtorEq]) | (refine AX.nilSl rfl (by first | exact tL22 | exact tL23 | exact tL25 | exact tL34 | exact tL36 | exact tL50 | exact tL100) (by first | exact .inl rfl | exact .inr rfl) rfl rfl rfl ?_; simp only [go_sem, reduceCtorEq]))
    | ((show indepK _ _ _ _ = true ∧ _); refine And.intro (by kernel_rfl) ?_)
    | ((show _ ∧ _); refine And.intro (by first | omega | assumption | (simp only [go_sem]; omega) | (simp; omega) | (simp; done)) ?_)
    | (refine hK _ ?_; clear hK K)
    | (clear hK K; refine hK _ ?_; clear hK K)
    | (clear hK K; clear hK K; refine hK _ ?_; clear hK K)
    | (clear hK K; clear hK K; clear hK K; refine hK _ ?_; clear hK K)
    | fail)
theorem diff_c (x y : Shp) (zs : List Dl) (hl : PCall Try.prog 39 [.c (.im (.mp 9 (dA (x.addS (-1) [] (y.addS 1 [] [])))))] (lsT zs)) (hx : x.tw ≤ 140737488355328) (hy : y.tw ≤ 140737488355328) : PCall Try.prog 20 [shT x, shT y] (lsT zs) := by
  have hc := add_top 1 (by decide) y [] (by simp) hy
  have hc2 := add_top (-1) (by decide) x (y.addS 1 [] []) (addS_keys 1 y [] [] (by simp)) hx
  have d0 : dE [] = [] := rfl
  rw [d0] at hc
  simp only [lsT] at *
  obtain ⟨s, o, ks⟩ := x
  obtain ⟨s', o', ks'⟩ := y
  simp only [shT_mk] at *
  generalize Shp.addS 1 (.mk s' o' ks') [] [] = ds at *
  generalize Shp.addS (-1) (.mk s o ks) [] ds = ds2 at *
  refine PCall.intro (nt := 15) (rs := [.tmp 4]) Try.func20 rfl ⟨by kernel_rfl, by kernel_rfl, by kernel_rfl⟩ (by simp) ?_
  rintro ⟨P, w0, ok0, may, np, pblk⟩ rfl rfl
  repeat' (first
    | ((show W _ _ _ _); first | (refine W.seq fun K hK => ?_) | refine W.block ?_ | (refine W.reg rfl ?_; simp only [go_sem, reduceCtorEq]) | (refine W.regD Try_mo rfl rfl ?_; simp only [go_sem, reduceCtorEq]) | (refine W.skip ?_; simp only [go_sem]) | (refine W.exit ?_; simp only [go_sem]) | (refine W.ret (Post.ret ?_); simp only [go_sem, reduceCtorEq]) | refine W.condT rfl ?_ | refine W.condF rfl ?_ | refine W.cond rfl (fun h => ?_) (fun h => ?_))
    | ((show AX _ _ _ _ _); first | (refine AX.pcall rfl rfl (by simp only [go_sem, unim_im]; rfl) (by solve_by_elim) rfl rfl ?_; simp only [go_sem, reduceCtorEq]) | (refine AX.pcallF rfl rfl (by simp only [go_sem, unim_im]; rfl) (by simp only [go_sem, unim_im]; rfl) (by solve_by_elim) rfl rfl ?_; simp only [go_sem, reduceCtorEq]) | (refine AX.lookup rfl (by first | exact tM65 | exact tM66) (by first | exact tG2 | exact tG3 | exact tG4 | exact tG5 | exact tG7 | exact tG9 | exact tG12 | exact tG13 | exact tG18 | exact tG19 | exact tG20 | exact tG21 | exact tG22 | exact tG23 | exact tG25 | exact tG26 | exact tG27 | exact tG34 | exact tG36 | exact tG37 | exact tG38 | exact tG46 | exact tG49 | exact tG50 | exact tG51 | exact tG58 | exact tG59 | exact tG65 | exact tG66 | exact tG69 | exact tG70 | exact tG72 | exact tG74 | exact tG75 | exact tG79 | exact tG80 | exact tG87 | exact tG90 | exact tG95 | exact tG96 | exact tG100 | exact tG103 | exact tG111 | exact tG117 | exact tG121 | exact tG128 | exact tG134 | exact tG142 | exact tG145 | exact tG148) (by first | exact kd9) rfl rfl rfl (by assumption) rfl ?_; simp only [go_sem, reduceCtorEq]) | (refine AX.mapUpdate rfl rfl (by first | exact tM65 | exact tM66) (by first | exact kd9) rfl rfl rfl (by assumption) rfl (by simp only [go_sem, reduceCtorEq]) ?_; simp only [go_sem, reduceCtorEq]) | (refine AX.makeMap rfl (by first | exact tM65 | exact tM66) rfl ?_; simp only [go_sem, reduceCtorEq]) | (refine AX.lenMap rfl (by first | exact tM65 | exact tM66) rfl rfl rfl ?_; simp only [go_sem, reduceCtorEq]) | (refine AX.range rfl (by first | exact tM65 | exact tM66) rfl rfl rfl ?_; simp only [go_sem, reduceCtorEq]) | (refine AX.appendStr rfl (by first | exact tL22 | exact tL23 | exact tL25 | exact tL34 | exact tL36 | exact tL50 | exact tL100) (by simp only [go_sem]) (by simp only [go_sem]) (by simp only [go_sem]) rfl rfl rfl rfl (by simp only [go_sem, reduceCtorEq]; first | omega | (simp; omega)) ?_; simp only [go_sem, reduceCtorEq]) | (refine AX.shr rfl rfl rfl rfl (by first | decide | omega) ?_; simp only [go_sem, reduceCtorEq]) | (refine AX.shl rfl rfl rfl rfl (by first | decide | omega) ?_; simp only [go_sem, reduceCtorEq]) | (refine AX.bits rfl rfl rfl (by assumption) rfl ?_; simp only [go_sem, reduceCtorEq]) | (refine AX.nilSl rfl (by first | exact tL22 | exact tL23 | exact tL25 | exact tL34 | exact tL36 | exact tL50 | exact tL100) (by first | exact .inl rfl | exact .inr rfl) rfl rfl rfl ?_; simp only [go_sem, reduceCtorEq]))
    | ((show indepK _ _ _ _ = true ∧ _); refine And.intro (by kernel_rfl) ?_)
    | ((show _ ∧ _); refine And.intro (by first | omega | assumption | (simp only [go_sem]; omega) | (simp; omega) | (simp; done)) ?_)
    | (refine hK _ ?_; clear hK K)
    | (clear hK K; refine hK _ ?_; clear hK K)
    | (clear hK K; clear hK K; refine hK _ ?_; clear hK K)
    | (clear hK K; clear hK K; clear hK K; refine hK _ ?_; clear hK K)
    | fail)
  refine AX.gcall [3] rfl rfl (hc) (by simp only [go_sem, reduceCtorEq, rnEs_dE]) (by simp only [go_sem, reduceCtorEq, rnEs_dE]) rfl rfl (by simp only [go_sem, Obj.owns]) rfl (by simp only [go_sem, Obj.owns]) rfl rfl ?_
  simp only [go_sem, reduceCtorEq, rnEs_dE]
  repeat' (first
    | ((show W _ _ _ _); first | (refine W.seq fun K hK => ?_) | refine W.block ?_ | (refine W.reg rfl ?_; simp only [go_sem, reduceCtorEq]) | (refine W.regD Try_mo rfl rfl ?_; simp only [go_sem, reduceCtorEq]) | (refine W.skip ?_; simp only [go_sem]) | (refine W.exit ?_; simp only [go_sem]) | (refine W.ret (Post.ret ?_); simp only [go_sem, reduceCtorEq]) | refine W.condT rfl ?_ | refine W.condF rfl ?_ | refine W.cond rfl (fun h => ?_) (fun h => ?_))
    | ((show AX _ _ _ _ _); first | (refine AX.pcall rfl rfl (by simp only [go_sem, unim_im]; rfl) (by solve_by_elim) rfl rfl ?_; simp only [go_sem, reduceCtorEq]) | (refine AX.pcallF rfl rfl (by simp only [go_sem, unim_im]; rfl) (by simp only [go_sem, unim_im]; rfl) (by solve_by_elim) rfl rfl ?_; simp only [go_sem, reduceCtorEq]) | (refine AX.lookup rfl (by first | exact tM65 | exact tM66) (by first | exact tG2 | exact tG3 | exact tG4 | exact tG5 | exact tG7 | exact tG9 | exact tG12 | exact tG13 | exact tG18 | exact tG19 | exact tG20 | exact tG21 | exact tG22 | exact tG23 | exact tG25 | exact tG26 | exact tG27 | exact tG34 | exact tG36 | exact tG37 | exact tG38 | exact tG46 | exact tG49 | exact tG50 | exact tG51 | exact tG58 | exact tG59 | exact tG65 | exact tG66 | exact tG69 | exact tG70 | exact tG72 | exact tG74 | exact tG75 | exact tG79 | exact tG80 | exact tG87 | exact tG90 | exact tG95 | exact tG96 | exact tG100 | exact tG103 | exact tG111 | exact tG117 | exact tG121 | exact tG128 | exact tG134 | exact tG142 | exact tG145 | exact tG148) (by first | exact kd9) rfl rfl rfl (by assumption) rfl ?_; simp only [go_sem, reduceCtorEq]) | (refine AX.mapUpdate rfl rfl (by first | exact tM65 | exact tM66) (by first | exact kd9) rfl rfl rfl (by assumption) rfl (by simp only [go_sem, reduceCtorEq]) ?_; simp only [go_sem, reduceCtorEq]) | (refine AX.makeMap rfl (by first | exact tM65 | exact tM66) rfl ?_; simp only [go_sem, reduceCtorEq]) | (refine AX.lenMap rfl (by first | exact tM65 | exact tM66) rfl rfl rfl ?_; simp only [go_sem, reduceCtorEq]) | (refine AX.range rfl (by first | exact tM65 | exact tM66) rfl rfl rfl ?_; simp only [go_sem, reduceCtorEq]) | (refine AX.appendStr rfl (by first | exact tL22 | exact tL23 | exact tL25 | exact tL34 | exact tL36 | exact tL50 | exact tL100) (by simp only [go_sem]) (by simp only [go_sem]) (by simp only [go_sem]) rfl rfl rfl rfl (by simp only [go_sem, reduceCtorEq]; first | omega | (simp; omega)) ?_; simp only [go_sem, reduceCtorEq]) | (refine AX.shr rfl rfl rfl rfl (by first | decide | omega) ?_; simp only [go_sem, reduceCtorEq]) | (refine AX.shl rfl rfl rfl rfl (by first | decide | omega) ?_; simp only [go_sem, reduceCtorEq]) | (refine AX.bits rfl rfl rfl (by assumption) rfl ?_; simp only [go_sem, reduceCtorEq]) | (refine AX.nilSl rfl (by first | exact tL22 | exact tL23 | exact tL25 | exact tL34 | exact tL36 | exact tL50 | exact tL100) (by first | exact .inl rfl | exact .inr rfl) rfl rfl rfl ?_; simp only [go_sem, reduceCtorEq]))
    | ((show indepK _ _ _ _ = true ∧ _); refine And.intro (by kernel_rfl) ?_)
    | ((show _ ∧ _); refine And.intro (by first | omega | assumption | (simp only [go_sem]; omega) | (simp; omega) | (simp; done)) ?_)
    | (refine hK _ ?_; clear hK K)
    | (clear hK K; refine hK _ ?_; clear hK K)
    | (clear hK K; clear hK K; refine hK _ ?_; clear hK K)
    | (clear hK K; clear hK K; clear hK K; refine hK _ ?_; clear hK K)
    | fail)
  refine AX.gcall [3] rfl rfl (hc2) (by simp only [go_sem, reduceCtorEq, rnEs_dE]) (by simp only [go_sem, reduceCtorEq, rnEs_dE]) rfl rfl (by simp only [go_sem, Obj.owns]) rfl (by simp only [go_sem, Obj.owns]) rfl rfl ?_
  simp only [go_sem, reduceCtorEq, rnEs_dE]
  repeat' (first
    | ((show W _ _ _ _); first | refine W.stop (id := 4) ?_ | (refine W.seq fun K hK => ?_) | refine W.block ?_ | (refine W.reg rfl ?_; simp only [go_sem, reduceCtorEq]) | (refine W.regD Try_mo rfl rfl ?_; simp only [go_sem, reduceCtorEq]) | (refine W.skip ?_; simp only [go_sem]) | (refine W.exit ?_; simp only [go_sem]) | (refine W.ret (Post.ret ?_); simp only [go_sem, reduceCtorEq]) | refine W.condT rfl ?_ | refine W.condF rfl ?_ | refine W.cond rfl (fun h => ?_) (fun h => ?_))
    | ((show AX _ _ _ _ _); first | (refine AX.pcall rfl rfl (by simp only [go_sem, unim_im]; rfl) (by solve_by_elim) rfl rfl ?_; simp only [go_sem, reduceCtorEq]) | (refine AX.pcallF rfl rfl (by simp only [go_sem, unim_im]; rfl) (by simp only [go_sem, unim_im]; rfl) (by solve_by_elim) rfl rfl ?_; simp only [go_sem, reduceCtorEq]) | (refine AX.lookup rfl (by first | exact tM65 | exact tM66) (by first | exact tG2 | exact tG3 | exact tG4 | exact tG5 | exact tG7 | exact tG9 | exact tG12 | exact tG13 | exact tG18 | exact tG19 | exact tG20 | exact tG21 | exact tG22 | exact tG23 | exact tG25 | exact tG26 | exact tG27 | exact tG34 | exact tG36 | exact tG37 | exact tG38 | exact tG46 | exact tG49 | exact tG50 | exact tG51 | exact tG58 | exact tG59 | exact tG65 | exact tG66 | exact tG69 | exact tG70 | exact tG72 | exact tG74 | exact tG75 | exact tG79 | exact tG80 | exact tG87 | exact tG90 | exact tG95 | exact tG96 | exact tG100 | exact tG103 | exact tG111 | exact tG117 | exact tG121 | exact tG128 | exact tG134 | exact tG142 | exact tG145 | exact tG148) (by first | exact kd9) rfl rfl rfl (by assumption) rfl ?_; simp only [go_sem, reduceCtorEq]) | (refine AX.mapUpdate rfl rfl (by first | exact tM65 | exact tM66) (by first | exact kd9) rfl rfl rfl (by assumption) rfl (by simp only [go_sem, reduceCtorEq]) ?_; simp only [go_sem, reduceCtorEq]) | (refine AX.makeMap rfl (by first | exact tM65 | exact tM66) rfl ?_; simp only [go_sem, reduceCtorEq]) | (refine AX.lenMap rfl (by first | exact tM65 | exact tM66) rfl rfl rfl ?_; simp only [go_sem, reduceCtorEq]) | (refine AX.range rfl (by first | exact tM65 | exact tM66) rfl rfl rfl ?_; simp only [go_sem, reduceCtorEq]) | (refine AX.appendStr rfl (by first | exact tL22 | exact tL23 | exact tL25 | exact tL34 | exact tL36 | exact tL50 | exact tL100) (by simp only [go_sem]) (by simp only [go_sem]) (by simp only [go_sem]) rfl rfl rfl rfl (by simp only [go_sem, reduceCtorEq]; first | omega | (simp; omega)) ?_; simp only [go_sem, reduceCtorEq]) | (refine AX.shr rfl rfl rfl rfl (by first | decide | omega) ?_; simp only [go_sem, reduceCtorEq]) | (refine AX.shl rfl rfl rfl rfl (by first | decide | omega) ?_; simp only [go_sem, reduceCtorEq]) | (refine AX.bits rfl rfl rfl (by assumption) rfl ?_; simp only [go_sem, reduceCtorEq]) | (refine AX.nilSl rfl (by first | exact tL22 | exact tL23 | exact tL25 | exact tL34 | exact tL36 | exact tL50 | exact tL100) (by first | exact .inl rfl | exact .inr rfl) rfl rfl rfl ?_; simp only [go_sem, reduceCtorEq]))
    | ((show indepK _ _ _ _ = true ∧ _); refine And.intro (by kernel_rfl) ?_)
    | ((show _ ∧ _); refine And.intro (by first | omega | assumption | (simp only [go_sem]; omega) | (simp; omega) | (simp; done)) ?_)
    | (refine hK _ ?_; clear hK K)
    | (clear hK K; refine hK _ ?_; clear hK K)
    | (clear hK K; clear hK K; refine hK _ ?_; clear hK K)
    | (clear hK K; clear hK K; clear hK K; refine hK _ ?_; clear hK K)
    | fail)
  refine Stop.out ?_
  trace_state
  refine W.fits (s' := { t := [(5, .c (.mp 3))], h := [(3, .fro (.mp 9 (dA ds2)))], nx := 11, ex := [], nt := 15 }) (Fits.freezeM 3 rfl (dE_close ds2) ?_) ?_
  · simp only [go_sem]
    refine Fits.fit [(3, 3)] [5] 11 rfl rfl ?_
    simp only [go_sem]
    exact Fits.rfl
  repeat' (first
    | ((show W _ _ _ _); first | (refine W.seq fun K hK => ?_) | refine W.block ?_ | (refine W.reg rfl ?_; simp only [go_sem, reduceCtorEq]) | (refine W.regD Try_mo rfl rfl ?_; simp only [go_sem, reduceCtorEq]) | (refine W.skip ?_; simp only [go_sem]) | (refine W.exit ?_; simp only [go_sem]) | (refine W.ret (Post.ret ?_); simp only [go_sem, reduceCtorEq]) | refine W.condT rfl ?_ | refine W.condF rfl ?_ | refine W.cond rfl (fun h => ?_) (fun h => ?_))
    | ((show AX _ _ _ _ _); first | (refine AX.pcall rfl rfl (by simp only [go_sem, unim_im]; rfl) (by solve_by_elim) rfl rfl ?_; simp only [go_sem, reduceCtorEq]) | (refine AX.pcallF rfl rfl (by simp only [go_sem, unim_im]; rfl) (by simp only [go_sem, unim_im]; rfl) (by solve_by_elim) rfl rfl ?_; simp only [go_sem, reduceCtorEq]) | (refine AX.lookup rfl (by first | exact tM65 | exact tM66) (by first | exact tG2 | exact tG3 | exact tG4 | exact tG5 | exact tG7 | exact tG9 | exact tG12 | exact tG13 | exact tG18 | exact tG19 | exact tG20 | exact tG21 | exact tG22 | exact tG23 | exact tG25 | exact tG26 | exact tG27 | exact tG34 | exact tG36 | exact tG37 | exact tG38 | exact tG46 | exact tG49 | exact tG50 | exact tG51 | exact tG58 | exact tG59 | exact tG65 | exact tG66 | exact tG69 | exact tG70 | exact tG72 | exact tG74 | exact tG75 | exact tG79 | exact tG80 | exact tG87 | exact tG90 | exact tG95 | exact tG96 | exact tG100 | exact tG103 | exact tG111 | exact tG117 | exact tG121 | exact tG128 | exact tG134 | exact tG142 | exact tG145 | exact tG148) (by first | exact kd9) rfl rfl rfl (by assumption) rfl ?_; simp only [go_sem, reduceCtorEq]) | (refine AX.mapUpdate rfl rfl (by first | exact tM65 | exact tM66) (by first | exact kd9) rfl rfl rfl (by assumption) rfl (by simp only [go_sem, reduceCtorEq]) ?_; simp only [go_sem, reduceCtorEq]) | (refine AX.makeMap rfl (by first | exact tM65 | exact tM66) rfl ?_; simp only [go_sem, reduceCtorEq]) | (refine AX.lenMap rfl (by first | exact tM65 | exact tM66) rfl rfl rfl ?_; simp only [go_sem, reduceCtorEq]) | (refine AX.range rfl (by first | exact tM65 | exact tM66) rfl rfl rfl ?_; simp only [go_sem, reduceCtorEq]) | (refine AX.appendStr rfl (by first | exact tL22 | exact tL23 | exact tL25 | exact tL34 | exact tL36 | exact tL50 | exact tL100) (by simp only [go_sem]) (by simp only [go_sem]) (by simp only [go_sem]) rfl rfl rfl rfl (by simp only [go_sem, reduceCtorEq]; first | omega | (simp; omega)) ?_; simp only [go_sem, reduceCtorEq]) | (refine AX.shr rfl rfl rfl rfl (by first | decide | omega) ?_; simp only [go_sem, reduceCtorEq]) | (refine AX.shl rfl rfl rfl rfl (by first | decide | omega) ?_; simp only [go_sem, reduceCtorEq]) | (refine AX.bits rfl rfl rfl (by assumption) rfl ?_; simp only [go_sem, reduceCtorEq]) | (refine AX.nilSl rfl (by first | exact tL22 | exact tL23 | exact tL25 | exact tL34 | exact tL36 | exact tL50 | exact tL100) (by first | exact .inl rfl | exact .inr rfl) rfl rfl rfl ?_; simp only [go_sem, reduceCtorEq]))
    | ((show indepK _ _ _ _ = true ∧ _); refine And.intro (by kernel_rfl) ?_)
    | ((show _ ∧ _); refine And.intro (by first | omega | assumption | (simp only [go_sem]; omega) | (simp; omega) | (simp; done)) ?_)
    | (refine hK _ ?_; clear hK K)
    | (clear hK K; refine hK _ ?_; clear hK K)
    | (clear hK K; clear hK K; refine hK _ ?_; clear hK K)
    | (clear hK K; clear hK K; clear hK K; refine hK _ ?_; clear hK K)
    | fail)
end Go.Proofs.Ytegcmciglakicaa
namespace Go.Proofs.Ytegcmciglakicaa
open Go.RowKit Go.Exe
set_option linter.unusedVariables false
set_option linter.unusedSimpArgs false
set_option maxHeartbeats 1000000
set_option maxRecDepth 100000
attribute [local irreducible] W AX Run RunD AStep AOp AOpX AStB AStH AStG Fits PCall GCall PostG Post Stop

abbrev bApi : ByteArray := ⟨#[97, 112, 105]⟩
abbrev bDb : ByteArray := ⟨#[100, 98]⟩
abbrev bCache : ByteArray := ⟨#[99, 97, 99, 104, 101]⟩
abbrev bGet : ByteArray := ⟨#[103, 101, 116]⟩
abbrev kX : Shp := .mk bApi bGet [.mk bDb bGet [], .mk bCache bGet [], .mk bDb bGet []]
abbrev kY : Shp := .mk bApi bGet [.mk bDb bGet []]
abbrev kC : Shp := .mk bApi bGet [.mk bCache bGet [], .mk bDb bGet [], .mk bDb bGet []]
abbrev kZ : List Dl := [([(bApi, bGet), (bCache, bGet)], -1), ([(bApi, bGet), (bDb, bGet)], -1)]
theorem kX_canon : kX.canon = kC := by kernel_rfl
theorem kX_size : kX.size = 4 := by rfl
theorem kX_depth : kX.depth = 2 := by rfl
theorem kX_adds : (kX.addS (-1) [] (kY.addS 1 [] [])) = [([(bApi, bGet)], 0), ([(bApi, bGet), (bDb, bGet)], -1), ([(bApi, bGet), (bCache, bGet)], -1)] := by kernel_rfl
theorem kXY : (kX.canon.cmp kY.canon == 0) = false := by kernel_rfl
theorem eqG59 : Try.prog.eqGuardType Try.prog.depth 59 = false := by kernel_rfl
theorem eqDb (w : World) : (Op.equal 59 (.agg #[.string ⟨#[100, 98]⟩, .string ⟨#[103, 101, 116]⟩]) (.agg #[.string ⟨#[100, 98]⟩, .string ⟨#[103, 101, 116]⟩])).run Try.prog w = .ok true w := by kernel_rfl
theorem known_c (c12 : PCall Try.prog 12 [shT kX] (shT kC)) (c15 : PCall Try.prog 15 [shT kX, shT kY] (ft (.bool false)))
    (c16 : PCall Try.prog 16 [shT kX] (ft (.int .i64 4))) (c18 : PCall Try.prog 18 [shT kX] (ft (.int .i64 2))) (c20 : PCall Try.prog 20 [shT kX, shT kY] (lsT kZ)) : PCall Try.prog 8 [] (ft (.bool true)) := by
  have l1 := leaf_c bApi
  have l2 := leaf_c bDb
  have l3 := leaf_c bCache
  simp only [shT_mk, lsT, avs, Shp.av, kX, kY, kC, kZ, dlA, List.map_cons, List.map_nil, nmA] at *
  refine PCall.intro (nt := 78) (rs := [.tmp 0]) Try.func8 rfl ⟨by kernel_rfl, by kernel_rfl, by kernel_rfl⟩ (by simp) ?_
  rintro ⟨P, w0, ok0, may, np, pblk⟩ rfl rfl
  have n3 : (((3 : Nat) : Int) == 3) = true := rfl
  have n2 : (((2 : Nat) : Int) == 2) = true := rfl
  have t1 : Int.toNat 1 = 1 := rfl
  repeat' (first
    | ((show W _ _ _ _); first | (refine W.seq fun K hK => ?_) | refine W.block ?_ | (refine W.reg rfl ?_; simp only [go_sem, reduceCtorEq, n3, n2, t1, List.getElem?_cons_succ, List.getElem?_cons_zero, Option.map_some]) | (refine W.regD Try_mo rfl rfl ?_; simp only [go_sem, reduceCtorEq, n3, n2, t1, List.getElem?_cons_succ, List.getElem?_cons_zero, Option.map_some]) | (refine W.skip ?_; simp only [go_sem]) | (refine W.exit ?_; simp only [go_sem]) | (refine W.ret (Post.ret ?_); simp only [go_sem, reduceCtorEq, n3, n2, t1, List.getElem?_cons_succ, List.getElem?_cons_zero, Option.map_some]) | refine W.condT rfl ?_ | refine W.condF rfl ?_ | refine W.cond rfl (fun h => ?_) (fun h => ?_))
    | ((show AX _ _ _ _ _); first | (refine AX.pcall rfl rfl (by simp only [go_sem, unim_im]; rfl) (by solve_by_elim) rfl rfl ?_; simp only [go_sem, reduceCtorEq, n3, n2, t1, List.getElem?_cons_succ, List.getElem?_cons_zero, Option.map_some]) | (refine AX.pcallF rfl rfl (by simp only [go_sem, unim_im]; rfl) (by simp only [go_sem, unim_im]; rfl) (by solve_by_elim) rfl rfl ?_; simp only [go_sem, reduceCtorEq, n3, n2, t1, List.getElem?_cons_succ, List.getElem?_cons_zero, Option.map_some]) | (refine AX.lookup rfl (by first | exact tM65 | exact tM66) (by first | exact tG2 | exact tG3 | exact tG4 | exact tG5 | exact tG7 | exact tG9 | exact tG12 | exact tG13 | exact tG18 | exact tG19 | exact tG20 | exact tG21 | exact tG22 | exact tG23 | exact tG25 | exact tG26 | exact tG27 | exact tG34 | exact tG36 | exact tG37 | exact tG38 | exact tG46 | exact tG49 | exact tG50 | exact tG51 | exact tG58 | exact tG59 | exact tG65 | exact tG66 | exact tG69 | exact tG70 | exact tG72 | exact tG74 | exact tG75 | exact tG79 | exact tG80 | exact tG87 | exact tG90 | exact tG95 | exact tG96 | exact tG100 | exact tG103 | exact tG111 | exact tG117 | exact tG121 | exact tG128 | exact tG134 | exact tG142 | exact tG145 | exact tG148) (by first | exact kd9) rfl rfl rfl (by assumption) rfl ?_; simp only [go_sem, reduceCtorEq, n3, n2, t1, List.getElem?_cons_succ, List.getElem?_cons_zero, Option.map_some]) | (refine AX.mapUpdate rfl rfl (by first | exact tM65 | exact tM66) (by first | exact kd9) rfl rfl rfl (by assumption) rfl (by simp only [go_sem, reduceCtorEq, n3, n2, t1, List.getElem?_cons_succ, List.getElem?_cons_zero, Option.map_some]) ?_; simp only [go_sem, reduceCtorEq, n3, n2, t1, List.getElem?_cons_succ, List.getElem?_cons_zero, Option.map_some]) | (refine AX.makeMap rfl (by first | exact tM65 | exact tM66) rfl ?_; simp only [go_sem, reduceCtorEq, n3, n2, t1, List.getElem?_cons_succ, List.getElem?_cons_zero, Option.map_some]) | (refine AX.lenMap rfl (by first | exact tM65 | exact tM66) rfl rfl rfl ?_; simp only [go_sem, reduceCtorEq, n3, n2, t1, List.getElem?_cons_succ, List.getElem?_cons_zero, Option.map_some]) | (refine AX.range rfl (by first | exact tM65 | exact tM66) rfl rfl rfl ?_; simp only [go_sem, reduceCtorEq, n3, n2, t1, List.getElem?_cons_succ, List.getElem?_cons_zero, Option.map_some]) | (refine AX.appendStr rfl (by first | exact tL22 | exact tL23 | exact tL25 | exact tL34 | exact tL36 | exact tL50 | exact tL100) (by simp only [go_sem]) (by simp only [go_sem]) (by simp only [go_sem]) rfl rfl rfl rfl (by simp only [go_sem, reduceCtorEq, n3, n2, t1, List.getElem?_cons_succ, List.getElem?_cons_zero, Option.map_some]; first | omega | (simp; omega)) ?_; simp only [go_sem, reduceCtorEq, n3, n2, t1, List.getElem?_cons_succ, List.getElem?_cons_zero, Option.map_some]) | (refine AX.shr rfl rfl rfl rfl (by first | decide | omega) ?_; simp only [go_sem, reduceCtorEq, n3, n2, t1, List.getElem?_cons_succ, List.getElem?_cons_zero, Option.map_some]) | (refine AX.shl rfl rfl rfl rfl (by first | decide | omega) ?_; simp only [go_sem, reduceCtorEq, n3, n2, t1, List.getElem?_cons_succ, List.getElem?_cons_zero, Option.map_some]) | (refine AX.bits rfl rfl rfl (by assumption) rfl ?_; simp only [go_sem, reduceCtorEq, n3, n2, t1, List.getElem?_cons_succ, List.getElem?_cons_zero, Option.map_some]) | (refine AX.nilSl rfl (by first | exact tL22 | exact tL23 | exact tL25 | exact tL34 | exact tL36 | exact tL50 | exact tL100) (by first | exact .inl rfl | exact .inr rfl) rfl rfl rfl ?_; simp only [go_sem, reduceCtorEq, n3, n2, t1, List.getElem?_cons_succ, List.getElem?_cons_zero, Option.map_some]))
    | ((show indepK _ _ _ _ = true ∧ _); refine And.intro (by kernel_rfl) ?_)
    | ((show _ ∧ _); refine And.intro (by first | omega | assumption | (simp only [go_sem]; omega) | (simp; omega) | (simp; done)) ?_)
    | (refine hK _ ?_; clear hK K)
    | (clear hK K; refine hK _ ?_; clear hK K)
    | (clear hK K; clear hK K; refine hK _ ?_; clear hK K)
    | (clear hK K; clear hK K; clear hK K; refine hK _ ?_; clear hK K)
    | fail)
  refine AX.eqKey (s := _) rfl rfl rfl eqG59 eqDb rfl ?_
  simp only [go_sem]
  repeat' (first
    | ((show W _ _ _ _); first | (refine W.seq fun K hK => ?_) | refine W.block ?_ | (refine W.reg rfl ?_; simp only [go_sem, reduceCtorEq, n3, n2, t1, List.getElem?_cons_succ, List.getElem?_cons_zero, Option.map_some]) | (refine W.regD Try_mo rfl rfl ?_; simp only [go_sem, reduceCtorEq, n3, n2, t1, List.getElem?_cons_succ, List.getElem?_cons_zero, Option.map_some]) | (refine W.skip ?_; simp only [go_sem]) | (refine W.exit ?_; simp only [go_sem]) | (refine W.ret (Post.ret ?_); simp only [go_sem, reduceCtorEq, n3, n2, t1, List.getElem?_cons_succ, List.getElem?_cons_zero, Option.map_some]) | refine W.condT rfl ?_ | refine W.condF rfl ?_ | refine W.cond rfl (fun h => ?_) (fun h => ?_))
    | ((show AX _ _ _ _ _); first | (refine AX.pcall rfl rfl (by simp only [go_sem, unim_im]; rfl) (by solve_by_elim) rfl rfl ?_; simp only [go_sem, reduceCtorEq, n3, n2, t1, List.getElem?_cons_succ, List.getElem?_cons_zero, Option.map_some]) | (refine AX.pcallF rfl rfl (by simp only [go_sem, unim_im]; rfl) (by simp only [go_sem, unim_im]; rfl) (by solve_by_elim) rfl rfl ?_; simp only [go_sem, reduceCtorEq, n3, n2, t1, List.getElem?_cons_succ, List.getElem?_cons_zero, Option.map_some]) | (refine AX.lookup rfl (by first | exact tM65 | exact tM66) (by first | exact tG2 | exact tG3 | exact tG4 | exact tG5 | exact tG7 | exact tG9 | exact tG12 | exact tG13 | exact tG18 | exact tG19 | exact tG20 | exact tG21 | exact tG22 | exact tG23 | exact tG25 | exact tG26 | exact tG27 | exact tG34 | exact tG36 | exact tG37 | exact tG38 | exact tG46 | exact tG49 | exact tG50 | exact tG51 | exact tG58 | exact tG59 | exact tG65 | exact tG66 | exact tG69 | exact tG70 | exact tG72 | exact tG74 | exact tG75 | exact tG79 | exact tG80 | exact tG87 | exact tG90 | exact tG95 | exact tG96 | exact tG100 | exact tG103 | exact tG111 | exact tG117 | exact tG121 | exact tG128 | exact tG134 | exact tG142 | exact tG145 | exact tG148) (by first | exact kd9) rfl rfl rfl (by assumption) rfl ?_; simp only [go_sem, reduceCtorEq, n3, n2, t1, List.getElem?_cons_succ, List.getElem?_cons_zero, Option.map_some]) | (refine AX.mapUpdate rfl rfl (by first | exact tM65 | exact tM66) (by first | exact kd9) rfl rfl rfl (by assumption) rfl (by simp only [go_sem, reduceCtorEq, n3, n2, t1, List.getElem?_cons_succ, List.getElem?_cons_zero, Option.map_some]) ?_; simp only [go_sem, reduceCtorEq, n3, n2, t1, List.getElem?_cons_succ, List.getElem?_cons_zero, Option.map_some]) | (refine AX.makeMap rfl (by first | exact tM65 | exact tM66) rfl ?_; simp only [go_sem, reduceCtorEq, n3, n2, t1, List.getElem?_cons_succ, List.getElem?_cons_zero, Option.map_some]) | (refine AX.lenMap rfl (by first | exact tM65 | exact tM66) rfl rfl rfl ?_; simp only [go_sem, reduceCtorEq, n3, n2, t1, List.getElem?_cons_succ, List.getElem?_cons_zero, Option.map_some]) | (refine AX.range rfl (by first | exact tM65 | exact tM66) rfl rfl rfl ?_; simp only [go_sem, reduceCtorEq, n3, n2, t1, List.getElem?_cons_succ, List.getElem?_cons_zero, Option.map_some]) | (refine AX.appendStr rfl (by first | exact tL22 | exact tL23 | exact tL25 | exact tL34 | exact tL36 | exact tL50 | exact tL100) (by simp only [go_sem]) (by simp only [go_sem]) (by simp only [go_sem]) rfl rfl rfl rfl (by simp only [go_sem, reduceCtorEq, n3, n2, t1, List.getElem?_cons_succ, List.getElem?_cons_zero, Option.map_some]; first | omega | (simp; omega)) ?_; simp only [go_sem, reduceCtorEq, n3, n2, t1, List.getElem?_cons_succ, List.getElem?_cons_zero, Option.map_some]) | (refine AX.shr rfl rfl rfl rfl (by first | decide | omega) ?_; simp only [go_sem, reduceCtorEq, n3, n2, t1, List.getElem?_cons_succ, List.getElem?_cons_zero, Option.map_some]) | (refine AX.shl rfl rfl rfl rfl (by first | decide | omega) ?_; simp only [go_sem, reduceCtorEq, n3, n2, t1, List.getElem?_cons_succ, List.getElem?_cons_zero, Option.map_some]) | (refine AX.bits rfl rfl rfl (by assumption) rfl ?_; simp only [go_sem, reduceCtorEq, n3, n2, t1, List.getElem?_cons_succ, List.getElem?_cons_zero, Option.map_some]) | (refine AX.nilSl rfl (by first | exact tL22 | exact tL23 | exact tL25 | exact tL34 | exact tL36 | exact tL50 | exact tL100) (by first | exact .inl rfl | exact .inr rfl) rfl rfl rfl ?_; simp only [go_sem, reduceCtorEq, n3, n2, t1, List.getElem?_cons_succ, List.getElem?_cons_zero, Option.map_some]))
    | ((show indepK _ _ _ _ = true ∧ _); refine And.intro (by kernel_rfl) ?_)
    | ((show _ ∧ _); refine And.intro (by first | omega | assumption | (simp only [go_sem]; omega) | (simp; omega) | (simp; done)) ?_)
    | (refine hK _ ?_; clear hK K)
    | (clear hK K; refine hK _ ?_; clear hK K)
    | (clear hK K; clear hK K; refine hK _ ?_; clear hK K)
    | (clear hK K; clear hK K; clear hK K; refine hK _ ?_; clear hK K)
    | fail)
end Go.Proofs.Ytegcmciglakicaa
namespace Go.Proofs.Ytegcmciglakicaa
open Go.RowKit Go.Exe
set_option linter.unusedVariables false
set_option linter.unusedSimpArgs false
set_option maxHeartbeats 1000000
set_option maxRecDepth 100000
attribute [local irreducible] W AX Run RunD AStep AOp AOpX AStB AStH AStG Fits PCall GCall PostG Post Stop

theorem forms_c (p q r : List Nat) (x y z : Shp) (c8 : PCall Try.prog 8 [] (ft (.bool true)))
    (cp : PCall Try.prog 9 [planT p] (shT x)) (cq : PCall Try.prog 9 [planT q] (shT y)) (cr : PCall Try.prog 9 [planT r] (shT z))
    (c10 : ∀ x y : Shp, PCall Try.prog 10 [shT x, shT y] (ft (.int .i64 (x.canon.cmp y.canon))))
    (c11 : PCall Try.prog 11 [shT x.canon, shT x.canon] (ft (.bool true)))
    (c12 : PCall Try.prog 12 [shT x] (shT x.canon)) (c13 : PCall Try.prog 13 [shT x] (shT x.canon)) (c13b : PCall Try.prog 13 [shT y] (shT y.canon))
    (c14 : PCall Try.prog 14 [shT x.canon, shT y.canon] (ft (.int .i64 (x.canon.cmp y.canon))))
    (c15 : PCall Try.prog 15 [shT x, shT y] (ft (.bool (x.canon.cmp y.canon == 0))))
    (c16 : PCall Try.prog 16 [shT x] (ft (.int .i64 x.size))) (c17 : PCall Try.prog 17 [shT x] (ft (.int .i64 x.size)))
    (c18 : PCall Try.prog 18 [shT x] (ft (.int .i64 x.depth))) (c19 : PCall Try.prog 19 [shT x] (ft (.int .i64 x.depth)))
    (hc0 : x.canon.cmp x.canon.canon = 0) (hneg : y.canon.cmp x.canon = IntKind.i64.wrap (0 - x.canon.cmp y.canon))
    (htr : ¬ x.canon.cmp y.canon > 0 → ¬ y.canon.cmp z.canon > 0 → x.canon.cmp z.canon ≤ 0) :
    PCall Try.prog 3 [planT p, planT q, planT r] (ft (.bool true)) := by
  have a1 := c10 x y
  have a2 := c10 y z
  have a3 := c10 y x
  have a4 := c10 x x.canon
  have a5 := c10 x z
  clear c10
  rw [hc0] at a4
  rw [hneg] at a3
  generalize x.canon.cmp y.canon = u at *
  generalize y.canon.cmp z.canon = v at *
  generalize x.canon.cmp z.canon = t at *
  generalize x.size = n1 at *
  generalize x.depth = n2 at *
  generalize x.canon = xc at *
  generalize y.canon = yc at *
  obtain ⟨s, o, ks⟩ := x
  obtain ⟨s1, o1, ks1⟩ := y
  obtain ⟨s2, o2, ks2⟩ := z
  obtain ⟨s3, o3, ks3⟩ := xc
  obtain ⟨s4, o4, ks4⟩ := yc
  simp only [shT_mk, planT] at *
  refine PCall.intro (nt := 90) (rs := [.tmp 6]) Try.func3 rfl ⟨by kernel_rfl, by kernel_rfl, by kernel_rfl⟩ (by simp) ?_
  rintro ⟨P, w0, ok0, may, np, pblk⟩ rfl rfl
  by_cases hu : u > 0
  · have e1 : decide (u > 0) = true := by simp [hu]
    repeat' (first
      | ((show W _ _ _ _); first | (refine W.seq fun K hK => ?_) | refine W.block ?_ | (refine W.reg rfl ?_; simp only [go_sem, reduceCtorEq, e1]) | (refine W.regD Try_mo rfl rfl ?_; simp only [go_sem, reduceCtorEq, e1]) | (refine W.skip ?_; simp only [go_sem]) | (refine W.exit ?_; simp only [go_sem]) | (refine W.ret (Post.ret ?_); simp only [go_sem, reduceCtorEq, e1]) | refine W.condT rfl ?_ | refine W.condF rfl ?_ | refine W.cond rfl (fun h => ?_) (fun h => ?_))
      | ((show AX _ _ _ _ _); first | (refine AX.pcall rfl rfl (by simp only [go_sem, unim_im]; rfl) (by solve_by_elim) rfl rfl ?_; simp only [go_sem, reduceCtorEq, e1]) | (refine AX.pcallF rfl rfl (by simp only [go_sem, unim_im]; rfl) (by simp only [go_sem, unim_im]; rfl) (by solve_by_elim) rfl rfl ?_; simp only [go_sem, reduceCtorEq, e1]) | (refine AX.lookup rfl (by first | exact tM65 | exact tM66) (by first | exact tG2 | exact tG3 | exact tG4 | exact tG5 | exact tG7 | exact tG9 | exact tG12 | exact tG13 | exact tG18 | exact tG19 | exact tG20 | exact tG21 | exact tG22 | exact tG23 | exact tG25 | exact tG26 | exact tG27 | exact tG34 | exact tG36 | exact tG37 | exact tG38 | exact tG46 | exact tG49 | exact tG50 | exact tG51 | exact tG58 | exact tG59 | exact tG65 | exact tG66 | exact tG69 | exact tG70 | exact tG72 | exact tG74 | exact tG75 | exact tG79 | exact tG80 | exact tG87 | exact tG90 | exact tG95 | exact tG96 | exact tG100 | exact tG103 | exact tG111 | exact tG117 | exact tG121 | exact tG128 | exact tG134 | exact tG142 | exact tG145 | exact tG148) (by first | exact kd9) rfl rfl rfl (by assumption) rfl ?_; simp only [go_sem, reduceCtorEq, e1]) | (refine AX.mapUpdate rfl rfl (by first | exact tM65 | exact tM66) (by first | exact kd9) rfl rfl rfl (by assumption) rfl (by simp only [go_sem, reduceCtorEq, e1]) ?_; simp only [go_sem, reduceCtorEq, e1]) | (refine AX.makeMap rfl (by first | exact tM65 | exact tM66) rfl ?_; simp only [go_sem, reduceCtorEq, e1]) | (refine AX.lenMap rfl (by first | exact tM65 | exact tM66) rfl rfl rfl ?_; simp only [go_sem, reduceCtorEq, e1]) | (refine AX.range rfl (by first | exact tM65 | exact tM66) rfl rfl rfl ?_; simp only [go_sem, reduceCtorEq, e1]) | (refine AX.appendStr rfl (by first | exact tL22 | exact tL23 | exact tL25 | exact tL34 | exact tL36 | exact tL50 | exact tL100) (by simp only [go_sem]) (by simp only [go_sem]) (by simp only [go_sem]) rfl rfl rfl rfl (by simp only [go_sem, reduceCtorEq, e1]; first | omega | (simp; omega)) ?_; simp only [go_sem, reduceCtorEq, e1]) | (refine AX.shr rfl rfl rfl rfl (by first | decide | omega) ?_; simp only [go_sem, reduceCtorEq, e1]) | (refine AX.shl rfl rfl rfl rfl (by first | decide | omega) ?_; simp only [go_sem, reduceCtorEq, e1]) | (refine AX.bits rfl rfl rfl (by assumption) rfl ?_; simp only [go_sem, reduceCtorEq, e1]) | (refine AX.nilSl rfl (by first | exact tL22 | exact tL23 | exact tL25 | exact tL34 | exact tL36 | exact tL50 | exact tL100) (by first | exact .inl rfl | exact .inr rfl) rfl rfl rfl ?_; simp only [go_sem, reduceCtorEq, e1]))
      | ((show indepK _ _ _ _ = true ∧ _); refine And.intro (by kernel_rfl) ?_)
      | ((show _ ∧ _); refine And.intro (by first | omega | assumption | (simp only [go_sem]; omega) | (simp; omega) | (simp; done)) ?_)
      | (refine hK _ ?_; clear hK K)
      | (clear hK K; refine hK _ ?_; clear hK K)
      | (clear hK K; clear hK K; refine hK _ ?_; clear hK K)
      | (clear hK K; clear hK K; clear hK K; refine hK _ ?_; clear hK K)
      | fail)
  · have e1 : decide (u > 0) = false := by simp [hu]
    by_cases hv : v > 0
    · have e2 : decide (v > 0) = true := by simp [hv]
      repeat' (first
        | ((show W _ _ _ _); first | (refine W.seq fun K hK => ?_) | refine W.block ?_ | (refine W.reg rfl ?_; simp only [go_sem, reduceCtorEq, e1, e2]) | (refine W.regD Try_mo rfl rfl ?_; simp only [go_sem, reduceCtorEq, e1, e2]) | (refine W.skip ?_; simp only [go_sem]) | (refine W.exit ?_; simp only [go_sem]) | (refine W.ret (Post.ret ?_); simp only [go_sem, reduceCtorEq, e1, e2]) | refine W.condT rfl ?_ | refine W.condF rfl ?_ | refine W.cond rfl (fun h => ?_) (fun h => ?_))
        | ((show AX _ _ _ _ _); first | (refine AX.pcall rfl rfl (by simp only [go_sem, unim_im]; rfl) (by solve_by_elim) rfl rfl ?_; simp only [go_sem, reduceCtorEq, e1, e2]) | (refine AX.pcallF rfl rfl (by simp only [go_sem, unim_im]; rfl) (by simp only [go_sem, unim_im]; rfl) (by solve_by_elim) rfl rfl ?_; simp only [go_sem, reduceCtorEq, e1, e2]) | (refine AX.lookup rfl (by first | exact tM65 | exact tM66) (by first | exact tG2 | exact tG3 | exact tG4 | exact tG5 | exact tG7 | exact tG9 | exact tG12 | exact tG13 | exact tG18 | exact tG19 | exact tG20 | exact tG21 | exact tG22 | exact tG23 | exact tG25 | exact tG26 | exact tG27 | exact tG34 | exact tG36 | exact tG37 | exact tG38 | exact tG46 | exact tG49 | exact tG50 | exact tG51 | exact tG58 | exact tG59 | exact tG65 | exact tG66 | exact tG69 | exact tG70 | exact tG72 | exact tG74 | exact tG75 | exact tG79 | exact tG80 | exact tG87 | exact tG90 | exact tG95 | exact tG96 | exact tG100 | exact tG103 | exact tG111 | exact tG117 | exact tG121 | exact tG128 | exact tG134 | exact tG142 | exact tG145 | exact tG148) (by first | exact kd9) rfl rfl rfl (by assumption) rfl ?_; simp only [go_sem, reduceCtorEq, e1, e2]) | (refine AX.mapUpdate rfl rfl (by first | exact tM65 | exact tM66) (by first | exact kd9) rfl rfl rfl (by assumption) rfl (by simp only [go_sem, reduceCtorEq, e1, e2]) ?_; simp only [go_sem, reduceCtorEq, e1, e2]) | (refine AX.makeMap rfl (by first | exact tM65 | exact tM66) rfl ?_; simp only [go_sem, reduceCtorEq, e1, e2]) | (refine AX.lenMap rfl (by first | exact tM65 | exact tM66) rfl rfl rfl ?_; simp only [go_sem, reduceCtorEq, e1, e2]) | (refine AX.range rfl (by first | exact tM65 | exact tM66) rfl rfl rfl ?_; simp only [go_sem, reduceCtorEq, e1, e2]) | (refine AX.appendStr rfl (by first | exact tL22 | exact tL23 | exact tL25 | exact tL34 | exact tL36 | exact tL50 | exact tL100) (by simp only [go_sem]) (by simp only [go_sem]) (by simp only [go_sem]) rfl rfl rfl rfl (by simp only [go_sem, reduceCtorEq, e1, e2]; first | omega | (simp; omega)) ?_; simp only [go_sem, reduceCtorEq, e1, e2]) | (refine AX.shr rfl rfl rfl rfl (by first | decide | omega) ?_; simp only [go_sem, reduceCtorEq, e1, e2]) | (refine AX.shl rfl rfl rfl rfl (by first | decide | omega) ?_; simp only [go_sem, reduceCtorEq, e1, e2]) | (refine AX.bits rfl rfl rfl (by assumption) rfl ?_; simp only [go_sem, reduceCtorEq, e1, e2]) | (refine AX.nilSl rfl (by first | exact tL22 | exact tL23 | exact tL25 | exact tL34 | exact tL36 | exact tL50 | exact tL100) (by first | exact .inl rfl | exact .inr rfl) rfl rfl rfl ?_; simp only [go_sem, reduceCtorEq, e1, e2]))
        | ((show indepK _ _ _ _ = true ∧ _); refine And.intro (by kernel_rfl) ?_)
        | ((show _ ∧ _); refine And.intro (by first | omega | assumption | (simp only [go_sem]; omega) | (simp; omega) | (simp; done)) ?_)
        | (refine hK _ ?_; clear hK K)
        | (clear hK K; refine hK _ ?_; clear hK K)
        | (clear hK K; clear hK K; refine hK _ ?_; clear hK K)
        | (clear hK K; clear hK K; clear hK K; refine hK _ ?_; clear hK K)
        | fail)
    · have e2 : decide (v > 0) = false := by simp [hv]
      have e3 : decide (t ≤ 0) = true := by simp [htr hu hv]
      repeat' (first
        | ((show W _ _ _ _); first | (refine W.seq fun K hK => ?_) | refine W.block ?_ | (refine W.reg rfl ?_; simp only [go_sem, reduceCtorEq, e1, e2, e3]) | (refine W.regD Try_mo rfl rfl ?_; simp only [go_sem, reduceCtorEq, e1, e2, e3]) | (refine W.skip ?_; simp only [go_sem]) | (refine W.exit ?_; simp only [go_sem]) | (refine W.ret (Post.ret ?_); simp only [go_sem, reduceCtorEq, e1, e2, e3]) | refine W.condT rfl ?_ | refine W.condF rfl ?_ | refine W.cond rfl (fun h => ?_) (fun h => ?_))
        | ((show AX _ _ _ _ _); first | (refine AX.pcall rfl rfl (by simp only [go_sem, unim_im]; rfl) (by solve_by_elim) rfl rfl ?_; simp only [go_sem, reduceCtorEq, e1, e2, e3]) | (refine AX.pcallF rfl rfl (by simp only [go_sem, unim_im]; rfl) (by simp only [go_sem, unim_im]; rfl) (by solve_by_elim) rfl rfl ?_; simp only [go_sem, reduceCtorEq, e1, e2, e3]) | (refine AX.lookup rfl (by first | exact tM65 | exact tM66) (by first | exact tG2 | exact tG3 | exact tG4 | exact tG5 | exact tG7 | exact tG9 | exact tG12 | exact tG13 | exact tG18 | exact tG19 | exact tG20 | exact tG21 | exact tG22 | exact tG23 | exact tG25 | exact tG26 | exact tG27 | exact tG34 | exact tG36 | exact tG37 | exact tG38 | exact tG46 | exact tG49 | exact tG50 | exact tG51 | exact tG58 | exact tG59 | exact tG65 | exact tG66 | exact tG69 | exact tG70 | exact tG72 | exact tG74 | exact tG75 | exact tG79 | exact tG80 | exact tG87 | exact tG90 | exact tG95 | exact tG96 | exact tG100 | exact tG103 | exact tG111 | exact tG117 | exact tG121 | exact tG128 | exact tG134 | exact tG142 | exact tG145 | exact tG148) (by first | exact kd9) rfl rfl rfl (by assumption) rfl ?_; simp only [go_sem, reduceCtorEq, e1, e2, e3]) | (refine AX.mapUpdate rfl rfl (by first | exact tM65 | exact tM66) (by first | exact kd9) rfl rfl rfl (by assumption) rfl (by simp only [go_sem, reduceCtorEq, e1, e2, e3]) ?_; simp only [go_sem, reduceCtorEq, e1, e2, e3]) | (refine AX.makeMap rfl (by first | exact tM65 | exact tM66) rfl ?_; simp only [go_sem, reduceCtorEq, e1, e2, e3]) | (refine AX.lenMap rfl (by first | exact tM65 | exact tM66) rfl rfl rfl ?_; simp only [go_sem, reduceCtorEq, e1, e2, e3]) | (refine AX.range rfl (by first | exact tM65 | exact tM66) rfl rfl rfl ?_; simp only [go_sem, reduceCtorEq, e1, e2, e3]) | (refine AX.appendStr rfl (by first | exact tL22 | exact tL23 | exact tL25 | exact tL34 | exact tL36 | exact tL50 | exact tL100) (by simp only [go_sem]) (by simp only [go_sem]) (by simp only [go_sem]) rfl rfl rfl rfl (by simp only [go_sem, reduceCtorEq, e1, e2, e3]; first | omega | (simp; omega)) ?_; simp only [go_sem, reduceCtorEq, e1, e2, e3]) | (refine AX.shr rfl rfl rfl rfl (by first | decide | omega) ?_; simp only [go_sem, reduceCtorEq, e1, e2, e3]) | (refine AX.shl rfl rfl rfl rfl (by first | decide | omega) ?_; simp only [go_sem, reduceCtorEq, e1, e2, e3]) | (refine AX.bits rfl rfl rfl (by assumption) rfl ?_; simp only [go_sem, reduceCtorEq, e1, e2, e3]) | (refine AX.nilSl rfl (by first | exact tL22 | exact tL23 | exact tL25 | exact tL34 | exact tL36 | exact tL50 | exact tL100) (by first | exact .inl rfl | exact .inr rfl) rfl rfl rfl ?_; simp only [go_sem, reduceCtorEq, e1, e2, e3]))
        | ((show indepK _ _ _ _ = true ∧ _); refine And.intro (by kernel_rfl) ?_)
        | ((show _ ∧ _); refine And.intro (by first | omega | assumption | (simp only [go_sem]; omega) | (simp; omega) | (simp; done)) ?_)
        | (refine hK _ ?_; clear hK K)
        | (clear hK K; refine hK _ ?_; clear hK K)
        | (clear hK K; clear hK K; refine hK _ ?_; clear hK K)
        | (clear hK K; clear hK K; clear hK K; refine hK _ ?_; clear hK K)
        | fail)
end Go.Proofs.Ytegcmciglakicaa
namespace Go.Proofs.Ytegcmciglakicaa
open Go.RowKit Go.Exe
set_option linter.unusedVariables false
set_option linter.unusedSimpArgs false
set_option maxRecDepth 100000

/-- An order told by a number. -/
structure Lw {α : Type} (cm : α → α → Int) : Prop where
  anti : ∀ a b, cm b a = - cm a b
  tr : ∀ a b c, cm a b ≤ 0 → cm b c ≤ 0 → cm a c ≤ 0
  eq : ∀ a b, cm a b = 0 → a = b
theorem Lw.refl {α : Type} {cm : α → α → Int} (h : Lw cm) (a : α) : cm a a = 0 := by have := h.anti a a; omega
theorem Lw.lt1 {α : Type} {cm : α → α → Int} (h : Lw cm) {a b c : α} (h1 : cm a b < 0) (h2 : cm b c ≤ 0) : cm a c < 0 := by
  have h3 := h.tr a b c (by omega) h2
  by_cases h4 : cm a c = 0
  · have := h.eq a c h4
    subst this
    have := h.anti a b
    omega
  · omega
theorem Lw.lt2 {α : Type} {cm : α → α → Int} (h : Lw cm) {a b c : α} (h1 : cm a b ≤ 0) (h2 : cm b c < 0) : cm a c < 0 := by
  have h3 := h.tr a b c h1 (by omega)
  by_cases h4 : cm a c = 0
  · have := h.eq a c h4
    subst this
    have := h.anti a b
    omega
  · omega
theorem cmpsG_anti {α : Type} {cm : α → α → Int} : ∀ (x y : List α), (∀ a ∈ x, ∀ b ∈ y, cm b a = - cm a b) → cmpsG cm y x = - cmpsG cm x y
  | [], [], _ => rfl
  | [], _ :: _, _ => rfl
  | _ :: _, [], _ => rfl
  | a :: x, b :: y, h => by
    have h1 := h a (by simp) b (by simp)
    have h2 := cmpsG_anti x y fun a ha b hb => h a (by simp [ha]) b (by simp [hb])
    simp only [cmpsG]
    split <;> split <;> omega
theorem cmpsG_eq {α : Type} {cm : α → α → Int} : ∀ (x y : List α), (∀ a ∈ x, ∀ b ∈ y, cm a b = 0 → a = b) → cmpsG cm x y = 0 → x = y
  | [], [], _, _ => rfl
  | [], _ :: _, _, h => by simp [cmpsG] at h
  | _ :: _, [], _, h => by simp [cmpsG] at h
  | a :: x, b :: y, h, h0 => by
    simp only [cmpsG] at h0
    split at h0
    · omega
    · rename_i h1
      have e := h a (by simp) b (by simp) (by omega)
      have := cmpsG_eq x y (fun a ha b hb => h a (by simp [ha]) b (by simp [hb])) h0
      rw [e, this]
theorem cmpsG_tr {α : Type} {cm : α → α → Int} : ∀ (x y z : List α), (∀ a ∈ x, ∀ b, cm b a = - cm a b) → (∀ a ∈ x, ∀ b c, cm a b ≤ 0 → cm b c ≤ 0 → cm a c ≤ 0) → (∀ a ∈ x, ∀ b, cm a b = 0 → a = b) → (∀ a b, cm a b = 0 → a = b) → cmpsG cm x y ≤ 0 → cmpsG cm y z ≤ 0 → cmpsG cm x z ≤ 0
  | [], _, [], _, _, _, _, _, _ => by simp [cmpsG]
  | [], _, _ :: _, _, _, _, _, _, _ => by simp [cmpsG]
  | _ :: _, [], _, _, _, _, _, h, _ => by simp [cmpsG] at h
  | _ :: _, _ :: _, [], _, _, _, _, _, h => by simp [cmpsG] at h
  | a :: x, b :: y, c :: z, ha, ht, he, he2, h1, h2 => by
    have ih := cmpsG_tr x y z (fun a h => ha a (by simp [h])) (fun a h => ht a (by simp [h])) (fun a h => he a (by simp [h])) he2
    have t1 := ht a (by simp) b c
    have n1 := ha a (by simp) b
    have n2 := ha a (by simp) c
    simp only [cmpsG] at h1 h2 ⊢
    split at h1
    · split at h2
      · have t2 := t1 h1 h2
        split
        · exact t2
        · rename_i h3 h4 h5
          have := he a (by simp) c (by omega)
          subst this
          omega
      · rename_i h3 h4
        have := he2 b c (by omega)
        subst this
        rw [if_pos h3]; exact h1
    · rename_i h3
      have := he a (by simp) b (by omega)
      subst this
      split at h2
      · rename_i h4
        rw [if_pos h4]; exact h2
      · rename_i h4
        rw [if_neg h4]; exact ih h1 h2
theorem Lw.list {α : Type} {cm : α → α → Int} (h : Lw cm) : Lw (cmpsG cm) :=
  ⟨fun x y => cmpsG_anti x y fun a _ b _ => h.anti a b, fun x y z => cmpsG_tr x y z (fun a _ b => h.anti a b) (fun a _ b c => h.tr a b c) (fun a _ b => h.eq a b) h.eq, fun x y => cmpsG_eq x y fun a _ b _ => h.eq a b⟩
def cmpU (a b : UInt8) : Int := if a < b then -1 else if b < a then 1 else 0
theorem lwU : Lw cmpU := by
  refine ⟨fun a b => ?_, fun a b c h1 h2 => ?_, fun a b h => ?_⟩
  · simp only [cmpU, UInt8.lt_iff_toNat_lt]; split <;> split <;> omega
  · simp only [cmpU, UInt8.lt_iff_toNat_lt] at *; split at h1 <;> split at h2 <;> (try split at h1) <;> (try split at h2) <;> split <;> (try split) <;> omega
  · simp only [cmpU, UInt8.lt_iff_toNat_lt] at h
    apply UInt8.toNat_inj.1
    split at h
    · omega
    · split at h <;> omega
theorem cmpL_eq : ∀ (x y : List UInt8), (if Op.bytesLess x y then (-1 : Int) else if !(Op.bytesLess x y || x == y) then 1 else 0) = cmpsG cmpU x y
  | [], [] => by simp [Op.bytesLess, cmpsG]
  | [], _ :: _ => by simp [Op.bytesLess, cmpsG]
  | _ :: _, [] => by simp [Op.bytesLess, cmpsG]
  | a :: x, b :: y => by
    have ih := cmpL_eq x y
    simp only [cmpsG, ← ih, Op.bytesLess, cmpU]
    by_cases h1 : a < b
    · simp [h1]
    · by_cases h2 : b < a
      · have h3 : a ≠ b := fun e => by subst e; exact h1 h2
        simp [h1, h2, h3]
      · have h3 : a = b := by
          simp only [UInt8.lt_iff_toNat_lt] at h1 h2
          exact UInt8.toNat_inj.1 (by omega)
        subst h3
        simp [h1]
theorem lwB : Lw cmpB := by
  have key : ∀ a b, cmpB a b = cmpsG cmpU a.toList b.toList := fun a b => cmpL_eq _ _
  refine ⟨fun a b => ?_, fun a b c => ?_, fun a b h => ?_⟩
  · rw [key, key]; exact lwU.list.anti _ _
  · rw [key, key, key]; exact lwU.list.tr _ _ _
  · rw [key] at h
    have := lwU.list.eq _ _ h
    rw [ByteArray.toList_eq, ByteArray.toList_eq] at this
    exact ByteArray.ext (Array.toList_inj.1 this)
theorem cmpN_eq (a b : Nm) : cmpN a b = if cmpB a.1 b.1 ≠ 0 then cmpB a.1 b.1 else cmpB a.2 b.2 := by
  simp only [cmpN, orL]
  by_cases h : cmpB a.1 b.1 = 0
  · simp [h]
    exact fun h => h.symm
  · simp [h]
theorem lwN : Lw cmpN := by
  refine ⟨fun a b => ?_, fun a b c h1 h2 => ?_, fun a b h => ?_⟩
  · have := lwB.anti a.1 b.1
    have := lwB.anti a.2 b.2
    rw [cmpN_eq, cmpN_eq]
    split <;> split <;> omega
  · have l := lwU
    rw [cmpN_eq] at *
    by_cases e1 : cmpB a.1 b.1 = 0
    · have := lwB.eq _ _ e1
      rw [if_neg (by omega)] at h1
      rw [this]
      split at h2
      · rename_i h; rw [if_pos h]; exact h2
      · rename_i h; rw [if_neg h]; exact lwB.tr _ _ _ h1 h2
    · rw [if_pos e1] at h1
      by_cases e2 : cmpB b.1 c.1 = 0
      · have := lwB.eq _ _ e2
        rw [← this, if_pos e1]; exact h1
      · rw [if_pos e2] at h2
        have := lwB.lt1 (a := a.1) (b := b.1) (c := c.1) (by omega) h2
        rw [if_pos (by omega)]; omega
  · rw [cmpN_eq] at h
    split at h
    · omega
    · rename_i h1
      exact Prod.ext (lwB.eq _ _ (by omega)) (lwB.eq _ _ h)
theorem lwPath : Lw cmpPath := lwN.list
theorem cmps_G : ∀ l m : List Shp, cmps l m = cmpsG Shp.cmp l m
  | [], [] => by simp [cmps, cmpsG]
  | [], _ :: _ => by simp [cmps, cmpsG]
  | _ :: _, [] => by simp [cmps, cmpsG]
  | x :: r, y :: q => by simp only [cmps, cmpsG, cmps_G r q]
theorem cmp_mk (s o s' o' : ByteArray) (ks ks' : List Shp) : Shp.cmp (.mk s o ks) (.mk s' o' ks') = if cmpN (s, o) (s', o') ≠ 0 then cmpN (s, o) (s', o') else cmpsG Shp.cmp ks ks' := by
  rw [Shp.cmp, cmps_G]
  rfl
theorem shp_anti : ∀ x y : Shp, y.cmp x = - x.cmp y
  | .mk s o ks, .mk s' o' ks' => by
    have h1 := lwN.anti (s, o) (s', o')
    have h2 := cmpsG_anti ks ks' fun a ha b hb => shp_anti a b
    rw [cmp_mk, cmp_mk]
    split <;> split <;> omega
termination_by x => SizeOf.sizeOf x
decreasing_by
  have := List.sizeOf_lt_of_mem ha
  simp only [Shp.mk.sizeOf_spec]
  omega
theorem shp_eq : ∀ x y : Shp, x.cmp y = 0 → x = y
  | .mk s o ks, .mk s' o' ks', h => by
    rw [cmp_mk] at h
    split at h
    · omega
    · rename_i h1
      have h2 := lwN.eq _ _ (show cmpN (s, o) (s', o') = 0 by omega)
      have h3 := cmpsG_eq ks ks' (fun a ha b hb => shp_eq a b) h
      cases h2
      rw [h3]
termination_by x => SizeOf.sizeOf x
decreasing_by
  have := List.sizeOf_lt_of_mem ha
  simp only [Shp.mk.sizeOf_spec]
  omega
theorem shp_tr : ∀ x y z : Shp, x.cmp y ≤ 0 → y.cmp z ≤ 0 → x.cmp z ≤ 0
  | .mk s o ks, .mk s' o' ks', .mk s'' o'' ks'', h1, h2 => by
    have ht := cmpsG_tr ks ks' ks'' (fun a _ b => shp_anti a b) (fun a ha b c => shp_tr a b c) (fun a _ b => shp_eq a b) shp_eq
    rw [cmp_mk] at *
    by_cases e1 : cmpN (s, o) (s', o') = 0
    · have := lwN.eq _ _ e1
      rw [if_neg (by omega)] at h1
      rw [this]
      split at h2
      · rename_i h; rw [if_pos h]; exact h2
      · rename_i h; rw [if_neg h]; exact ht h1 h2
    · rw [if_pos e1] at h1
      by_cases e2 : cmpN (s', o') (s'', o'') = 0
      · have := lwN.eq _ _ e2
        rw [← this, if_pos e1]; exact h1
      · rw [if_pos e2] at h2
        have := lwN.lt1 (a := (s, o)) (b := (s', o')) (c := (s'', o'')) (by omega) h2
        rw [if_pos (by omega)]; omega
termination_by x => SizeOf.sizeOf x
decreasing_by
  have := List.sizeOf_lt_of_mem ha
  simp only [Shp.mk.sizeOf_spec]
  omega
theorem lwS : Lw Shp.cmp := ⟨shp_anti, shp_tr, shp_eq⟩
theorem Lw.ord {α : Type} {cm : α → α → Int} (h : Lw cm) (l : List α) : OrdOn cm l :=
  ⟨fun x _ h1 => by have := h.refl x; omega, fun x _ y _ z _ h1 h2 => h.lt1 h1 (by omega), fun x _ y _ z _ h1 h2 h3 => by
    have a1 := h.anti x y
    have a2 := h.anti y z
    have a3 := h.anti x z
    have := h.tr z y x (by omega) (by omega)
    omega⟩
theorem Lw.uni {α : Type} {cm : α → α → Int} (h : Lw cm) : ∀ {l m : List α}, l.Perm m → l.Pairwise (fun a b => ¬ cm b a < 0) → m.Pairwise (fun a b => ¬ cm b a < 0) → l = m
  | [], m, hp, _, _ => by rw [List.nil_perm.1 hp]
  | x :: r, [], hp, _, _ => by have := hp.length_eq; simp at this
  | x :: r, y :: q, hp, h1, h2 => by
    rw [List.pairwise_cons] at h1 h2
    have e : x = y := by
      have hx : x ∈ y :: q := hp.subset (by simp)
      have hy : y ∈ x :: r := hp.symm.subset (by simp)
      rcases List.mem_cons.1 hx with e | hx
      · exact e
      · rcases List.mem_cons.1 hy with e | hy
        · exact e.symm
        · have a1 := h1.1 y hy
          have a2 := h2.1 x hx
          have a3 := h.anti x y
          exact h.eq x y (by omega)
    subst e
    rw [Lw.uni h (List.perm_cons x |>.1 hp) h1.2 h2.2]
theorem ins1_perm (x : Shp) : ∀ l, (ins1 x l).Perm (x :: l)
  | [] => List.Perm.refl _
  | y :: r => by
    simp only [ins1]
    split
    · exact List.Perm.refl _
    · exact ((ins1_perm x r).cons y).trans (List.Perm.swap x y r)
theorem srt_perm : ∀ l, (srt l).Perm l
  | [] => List.Perm.refl _
  | x :: r => (ins1_perm x _).trans ((srt_perm r).cons x)
theorem ins1_sorted (x : Shp) : ∀ l : List Shp, l.Pairwise (fun a b => ¬ b.cmp a < 0) → (ins1 x l).Pairwise (fun a b => ¬ b.cmp a < 0)
  | [], _ => by simp [ins1]
  | y :: r, h => by
    simp only [ins1]
    have hc := List.pairwise_cons.1 h
    split
    · rename_i hl
      refine List.pairwise_cons.2 ⟨fun z hz => ?_, h⟩
      rcases List.mem_cons.1 hz with rfl | hz
      · have := lwS.anti x z; omega
      · have a1 := hc.1 z hz
        have a2 := lwS.anti z y
        have a3 := lwS.tr x y z (by omega) (by omega)
        have a4 := lwS.anti x z
        omega
    · rename_i hl
      refine List.pairwise_cons.2 ⟨fun z hz => ?_, ins1_sorted x r hc.2⟩
      rcases List.mem_cons.1 ((ins1_perm x r).subset hz) with rfl | hz
      · exact hl
      · exact hc.1 z hz
theorem srt_sorted : ∀ l, (srt l).Pairwise (fun a b => ¬ b.cmp a < 0)
  | [] => List.Pairwise.nil
  | x :: r => ins1_sorted x _ (srt_sorted r)
theorem srt_uni (l zs : List Shp) (hp : zs.Perm l) (hs : zs.Pairwise fun a b => ¬ b.cmp a < 0) : zs = srt l := lwS.uni (hp.trans (srt_perm l).symm) hs (srt_sorted l)
end Go.Proofs.Ytegcmciglakicaa
namespace Go.Proofs.Ytegcmciglakicaa
open Go.RowKit Go.Exe
set_option linter.unusedVariables false
set_option linter.unusedSimpArgs false
set_option maxRecDepth 100000

theorem srt_fix {l : List Shp} (h : l.Pairwise fun a b => ¬ b.cmp a < 0) : srt l = l := (srt_uni l l (List.Perm.refl _) h).symm
theorem canon_idem : ∀ x : Shp, x.canon.canon = x.canon
  | .mk s o ks => by
    have h : canons (srt (canons ks)) = srt (canons ks) := by
      rw [canons_map (srt (canons ks))]
      refine (List.map_congr_left fun y hy => ?_).trans (List.map_id _)
      have := (srt_perm (canons ks)).subset hy
      rw [canons_map] at this
      obtain ⟨x, hx, rfl⟩ := List.mem_map.1 this
      exact canon_idem x
    simp only [Shp.canon]
    rw [h, srt_fix (srt_sorted _)]
termination_by x => SizeOf.sizeOf x
decreasing_by
  have := List.sizeOf_lt_of_mem hx
  simp only [Shp.mk.sizeOf_spec]
  omega
theorem posR_spec (c : Shp) (l : List Shp) : ∀ n, n ≤ l.length → (∀ i x, posR c l n ≤ i → i < n → l[i]? = some x → x.cmp c > 0) ∧ (∀ i x, posR c l n = i + 1 → l[i]? = some x → ¬ x.cmp c > 0)
  | 0, _ => ⟨fun i x h1 h2 => by omega, fun i x h => by simp [posR] at h⟩
  | n + 1, hn => by
    obtain ⟨x0, hx0⟩ : ∃ x0, l[n]? = some x0 := ⟨l[n], List.getElem?_eq_getElem (by omega)⟩
    obtain ⟨h1, h2⟩ := posR_spec c l n (by omega)
    unfold posR
    rw [hx0]
    simp only
    split
    · rename_i hg
      refine ⟨fun i x a1 a2 a3 => ?_, h2⟩
      by_cases e : i = n
      · subst e; rw [hx0] at a3; cases a3; exact hg
      · exact h1 i x a1 (by omega) a3
    · rename_i hg
      refine ⟨fun i x a1 a2 => by omega, fun i x a1 a2 => ?_⟩
      have : i = n := by omega
      subst this; rw [hx0] at a2; cases a2; exact hg
theorem insM_perm (c : Shp) (l : List Shp) : (insM c l).Perm (c :: l) := by
  have h : (insM c l).Perm (c :: (l.take (posR c l l.length) ++ l.drop (posR c l l.length))) := by
    simp only [insM, List.append_assoc]
    exact List.perm_middle
  rwa [List.take_append_drop] at h
theorem insM_sorted (c : Shp) (l : List Shp) (h : l.Pairwise fun a b => ¬ b.cmp a < 0) : (insM c l).Pairwise fun a b => ¬ b.cmp a < 0 := by
  obtain ⟨h1, h2⟩ := posR_spec c l l.length (Nat.le_refl _)
  have hp := posR_le c l l.length
  have hlo : ∀ x ∈ l.take (posR c l l.length), x.cmp c ≤ 0 := fun x hx => by
    obtain ⟨i, hi, hx⟩ := List.mem_iff_getElem.1 hx
    rw [List.length_take] at hi
    rw [List.getElem_take] at hx
    have hq : (posR c l l.length) - 1 < l.length := by omega
    have h3 := h2 (posR c l l.length - 1) _ (by omega) (List.getElem?_eq_getElem hq)
    by_cases e : i = posR c l l.length - 1
    · subst e; subst hx; omega
    · have h4 := List.pairwise_iff_getElem.1 h i (posR c l l.length - 1) (by omega) hq (by omega)
      subst hx
      have a1 := lwS.anti l[i] l[posR c l l.length - 1]
      exact lwS.tr _ _ _ (by omega) (by omega : l[posR c l l.length - 1].cmp c ≤ 0)
  have hhi : ∀ x ∈ l.drop (posR c l l.length), x.cmp c > 0 := fun x hx => by
    obtain ⟨i, hi, hx⟩ := List.mem_iff_getElem.1 hx
    rw [List.length_drop] at hi
    rw [List.getElem_drop] at hx
    exact h1 (posR c l l.length + i) x (by omega) (by omega) (by rw [← hx]; exact List.getElem?_eq_getElem _)
  have hs : (l.take (posR c l l.length) ++ l.drop (posR c l l.length)).Pairwise fun a b => ¬ b.cmp a < 0 := by rw [List.take_append_drop]; exact h
  rw [List.pairwise_append] at hs
  simp only [insM, List.append_assoc]
  rw [List.pairwise_append]
  refine ⟨hs.1, List.pairwise_cons.2 ⟨fun b hb => ?_, hs.2.1⟩, fun a ha b hb => ?_⟩
  · have := hhi b (by simpa using hb); omega
  · have a1 := hlo a ha
    rcases List.mem_cons.1 (by simpa using hb) with rfl | hb
    · have := lwS.anti a b; omega
    · exact hs.2.2 a ha b hb
theorem mcanons_spec : ∀ (l acc : List Shp), acc.Pairwise (fun a b => ¬ b.cmp a < 0) → (mcanons acc l).Pairwise (fun a b => ¬ b.cmp a < 0) ∧ (mcanons acc l).Perm (acc ++ l.map Shp.mcanon)
  | [], acc, h => by simp only [mcanons, List.map_nil, List.append_nil]; exact ⟨h, List.Perm.refl _⟩
  | x :: r, acc, h => by
    obtain ⟨h1, h2⟩ := mcanons_spec r (insM x.mcanon acc) (insM_sorted _ _ h)
    simp only [mcanons, List.map_cons]
    refine ⟨h1, h2.trans ?_⟩
    exact ((insM_perm x.mcanon acc).append_right _).trans List.perm_middle.symm
theorem mcanon_eq : ∀ x : Shp, x.mcanon = x.canon
  | .mk s o ks => by
    obtain ⟨h1, h2⟩ := mcanons_spec ks [] List.Pairwise.nil
    have h3 : ks.map Shp.mcanon = canons ks := by
      rw [canons_map]
      exact List.map_congr_left fun x hx => mcanon_eq x
    rw [List.nil_append, h3] at h2
    simp only [Shp.mcanon, Shp.canon]
    rw [srt_uni _ _ h2 h1]
termination_by x => SizeOf.sizeOf x
decreasing_by
  have := List.sizeOf_lt_of_mem hx
  simp only [Shp.mk.sizeOf_spec]
  omega
mutual
theorem same_refl : ∀ x : Shp, x.same x = true
  | .mk s o ks => by simp [Shp.same, sames_refl ks]
theorem sames_refl : ∀ l : List Shp, sames l l = true
  | [] => by simp [sames]
  | x :: r => by simp [sames, same_refl x, sames_refl r]
end
theorem canon_self (x : Shp) : x.canon.cmp x.canon.canon = 0 := by rw [canon_idem]; exact lwS.refl _
end Go.Proofs.Ytegcmciglakicaa
namespace Go.Proofs.Ytegcmciglakicaa
open Go.RowKit Go.Exe
set_option linter.unusedVariables false
set_option linter.unusedSimpArgs false
set_option maxRecDepth 100000

theorem all34 : ∀ x y : Shp, PCall Try.prog 34 [shT x, shT y] (ft (.int .i64 (x.cmp y))) := shcompare_all cmpOr_c
theorem all12 (c35 : SortC Try.prog 35 3) : ∀ x : Shp, PCall Try.prog 12 [shT x] (shT x.canon)
  | .mk s o ks => canonical_c c35 all34 lwS.ord srt_perm srt_uni s o ks fun x hx => all12 c35 x
termination_by x => SizeOf.sizeOf x
decreasing_by
  have := List.sizeOf_lt_of_mem hx
  simp only [Shp.mk.sizeOf_spec]
  omega
theorem all14 : ∀ x y : Shp, PCall Try.prog 14 [shT x, shT y] (ft (.int .i64 (x.cmp y)))
  | .mk s o ks, .mk s' o' ks' => mcompare_c sign_c compareStrings_c s o s' o' ks ks' fun x hx y hy => all14 x y
termination_by x => SizeOf.sizeOf x
decreasing_by
  have := List.sizeOf_lt_of_mem hx
  simp only [Shp.mk.sizeOf_spec]
  omega
theorem all13 : ∀ x : Shp, PCall Try.prog 13 [shT x] (shT x.mcanon)
  | .mk s o ks => mcanonical_c all14 s o ks fun x hx => all13 x
termination_by x => SizeOf.sizeOf x
decreasing_by
  have := List.sizeOf_lt_of_mem hx
  simp only [Shp.mk.sizeOf_spec]
  omega
theorem all11 : ∀ x y : Shp, PCall Try.prog 11 [shT x, shT y] (ft (.bool (x.same y)))
  | .mk s o ks, .mk s' o' ks' => same_c s o s' o' ks ks' fun x hx y hy => all11 x y
termination_by x => SizeOf.sizeOf x
decreasing_by
  have := List.sizeOf_lt_of_mem hx
  simp only [Shp.mk.sizeOf_spec]
  omega
theorem size_mem {ks : List Shp} {x : Shp} (h : x ∈ ks) : x.size ≤ sizes ks := by
  induction ks with
  | nil => simp at h
  | cons y r ih =>
    rcases List.mem_cons.1 h with rfl | h
    · simp [sizes]
    · have := ih h; simp only [sizes]; omega
theorem all16 : ∀ x : Shp, x.size ≤ 9223372036854775807 → PCall Try.prog 16 [shT x] (ft (.int .i64 x.size))
  | .mk s o ks, h => Size_c s o ks h fun x hx => all16 x (by have := size_mem hx; simp only [Shp.size] at h; omega)
termination_by x => SizeOf.sizeOf x
decreasing_by
  have := List.sizeOf_lt_of_mem hx
  simp only [Shp.mk.sizeOf_spec]
  omega
theorem all17 : ∀ x : Shp, x.size ≤ 9223372036854775807 → PCall Try.prog 17 [shT x] (ft (.int .i64 x.size))
  | .mk s o ks, h => size_c s o ks h fun x hx => all17 x (by have := size_mem hx; simp only [Shp.size] at h; omega)
termination_by x => SizeOf.sizeOf x
decreasing_by
  have := List.sizeOf_lt_of_mem hx
  simp only [Shp.mk.sizeOf_spec]
  omega
theorem all18 : ∀ x : Shp, x.size ≤ 9223372036854775807 → PCall Try.prog 18 [shT x] (ft (.int .i64 x.depth))
  | .mk s o ks, h => Depth_c s o ks h fun x hx => all18 x (by have := size_mem hx; simp only [Shp.size] at h; omega)
termination_by x => SizeOf.sizeOf x
decreasing_by
  have := List.sizeOf_lt_of_mem hx
  simp only [Shp.mk.sizeOf_spec]
  omega
theorem all19 : ∀ x : Shp, x.size ≤ 9223372036854775807 → PCall Try.prog 19 [shT x] (ft (.int .i64 x.depth))
  | .mk s o ks, h => depth_c s o ks h fun x hx => all19 x (by have := size_mem hx; simp only [Shp.size] at h; omega)
termination_by x => SizeOf.sizeOf x
decreasing_by
  have := List.sizeOf_lt_of_mem hx
  simp only [Shp.mk.sizeOf_spec]
  omega
/-! ### the order's numbers -/
theorem cmpB_range (a b : ByteArray) : -1 ≤ cmpB a b ∧ cmpB a b ≤ 1 := by
  simp only [cmpB]
  split
  · omega
  · split <;> omega
theorem cmpN_range (a b : Nm) : -1 ≤ cmpN a b ∧ cmpN a b ≤ 1 := by
  rw [cmpN_eq]
  split
  · exact cmpB_range _ _
  · exact cmpB_range _ _
theorem cmpsG_range {α : Type} {cm : α → α → Int} : ∀ (x y : List α), (∀ a ∈ x, ∀ b, -1 ≤ cm a b ∧ cm a b ≤ 1) → -1 ≤ cmpsG cm x y ∧ cmpsG cm x y ≤ 1
  | [], [], _ => by simp [cmpsG]
  | [], _ :: _, _ => by simp [cmpsG]
  | _ :: _, [], _ => by simp [cmpsG]
  | a :: x, b :: y, h => by
    simp only [cmpsG]
    split
    · exact h a (by simp) b
    · exact cmpsG_range x y fun a ha => h a (by simp [ha])
theorem shp_range : ∀ x y : Shp, -1 ≤ x.cmp y ∧ x.cmp y ≤ 1
  | .mk s o ks, .mk s' o' ks' => by
    rw [cmp_mk]
    split
    · exact cmpN_range _ _
    · exact cmpsG_range ks ks' fun a ha b => shp_range a b
termination_by x => SizeOf.sizeOf x
decreasing_by
  have := List.sizeOf_lt_of_mem ha
  simp only [Shp.mk.sizeOf_spec]
  omega
theorem wrap_neg {n : Int} (h : -1 ≤ n ∧ n ≤ 1) : IntKind.i64.wrap (0 - n) = - n := by
  have : n = -1 ∨ n = 0 ∨ n = 1 := by omega
  rcases this with rfl | rfl | rfl <;> decide
/-! ### ShapeForms -/
theorem forms_all (c35 : SortC Try.prog 35 3) (c8 : PCall Try.prog 8 [] (ft (.bool true))) (p q r : List Nat) (hp : ∀ x ∈ p, x < 256) (hq : ∀ x ∈ q, x < 256) (hr : ∀ x ∈ r, x < 256) (hsz : (madeP p).size ≤ 9223372036854775807) :
    PCall Try.prog 3 [planT p, planT q, planT r] (ft (.bool true)) := by
  have c10 := Compare_c (all12 c35) all34
  refine forms_c p q r (madeP p) (madeP q) (madeP r) c8 (made_c p hp) (made_c q hq) (made_c r hr) c10 ?_ (all12 c35 _) ?_ ?_ (all14 _ _) (Equal_c c10 _ _) (all16 _ hsz) (all17 _ hsz) (all18 _ hsz) (all19 _ hsz) (canon_self _) ?_ ?_
  · have := all11 (madeP p).canon (madeP p).canon
    rwa [same_refl] at this
  · have := all13 (madeP p)
    rwa [mcanon_eq] at this
  · have := all13 (madeP q)
    rwa [mcanon_eq] at this
  · rw [wrap_neg (shp_range _ _)]; exact shp_anti _ _
  · intro h1 h2
    exact shp_tr _ (madeP q).canon _ (by omega) (by omega)
/-! ### how large a made shape is -/
mutual
theorem growF_size : ∀ (f : Nat) (p : List Nat), (growF f p).1.size ≤ 4 * (p.length - (growF f p).2.length) + 1
  | 0, p => by simp [growF, Shp.size, sizes]
  | f + 1, [] => by simp [growF, Shp.size, sizes]
  | f + 1, b :: r => by
    have h1 := kidsF_size f (b / 3 % 4) r
    have h2 := (kidsF_suf f (b / 3 % 4) r).length_le
    simp only [growF, Shp.size, List.length_cons]
    omega
termination_by f _ => (f, 0)
theorem kidsF_size : ∀ (f n : Nat) (p : List Nat), sizes (kidsF f n p).1 ≤ n + 4 * (p.length - (kidsF f n p).2.length)
  | _, 0, l => by simp [kidsF, sizes]
  | _, _ + 1, [] => by simp [kidsF, sizes]
  | f, n + 1, b :: r => by
    have h1 := growF_size f (b :: r)
    have h2 := kidsF_size f n (growF f (b :: r)).2
    have h3 := (growF_suf f (b :: r)).length_le
    have h4 := (kidsF_suf f n (growF f (b :: r)).2).length_le
    simp only [kidsF, sizes]
    omega
termination_by f n _ => (f, n + 1)
end
theorem madeP_size (p : List Nat) : (madeP p).size ≤ 97 := by
  have h := growF_size 24 (p.take 24)
  have : (p.take 24).length ≤ 24 := by simp; omega
  unfold madeP
  omega
/-! ### known -/
theorem cmpPath_ord (l : List Dl) : OrdOn (fun a b : Dl => cmpPath a.1 b.1) l :=
  ⟨fun x _ => (lwPath.ord [x.1]).irrefl _ (by simp), fun x _ y _ z _ => (lwPath.ord [x.1, y.1, z.1]).trans _ (by simp) _ (by simp) _ (by simp), fun x _ y _ z _ => (lwPath.ord [x.1, y.1, z.1]).ntrans _ (by simp) _ (by simp) _ (by simp)⟩
/-- Sorted lists of the same deltas, whose paths are apart, are the same list. -/
theorem dl_uni {zs zs' : List Dl} (hp : zs'.Perm zs) (hn : ∀ a ∈ zs, ∀ b ∈ zs, a.1 = b.1 → a = b) (h1 : zs'.Pairwise fun a b => ¬ cmpPath b.1 a.1 < 0) (h2 : zs.Pairwise fun a b => ¬ cmpPath b.1 a.1 < 0) : zs' = zs := by
  induction zs' generalizing zs with
  | nil => rw [List.nil_perm.1 hp]
  | cons x r ih =>
    cases zs with
    | nil => have := hp.length_eq; simp at this
    | cons y q =>
      rw [List.pairwise_cons] at h1 h2
      have e : x = y := by
        have hx : x ∈ y :: q := hp.subset (by simp)
        have hy : y ∈ x :: r := hp.symm.subset (by simp)
        refine hn x hx y (by simp) ?_
        rcases List.mem_cons.1 hx with e | hx2
        · rw [e]
        · rcases List.mem_cons.1 hy with e | hy2
          · rw [e]
          · have a1 := h1.1 y hy2
            have a2 := h2.1 x hx2
            have a3 := lwPath.anti x.1 y.1
            exact lwPath.eq _ _ (by omega)
      subst e
      rw [ih ((List.perm_cons x).1 hp) (fun a ha b hb => hn a (by simp [ha]) b (by simp [hb])) h1.2 h2.2]
theorem known_all (c35 : SortC Try.prog 35 3) (c55 : SortC Try.prog 55 2) : PCall Try.prog 8 [] (ft (.bool true)) := by
  have c12 := all12 c35 kX
  rw [kX_canon] at c12
  have c15 := Equal_c (Compare_c (all12 c35) all34) kX kY
  rw [kXY] at c15
  have c16 := all16 kX (by rw [kX_size]; omega)
  have c18 := all18 kX (by rw [kX_size]; omega)
  rw [kX_size] at c16
  rw [kX_depth] at c18
  refine known_c c12 c15 c16 c18 (diff_c kX kY kZ ?_ (by decide) (by decide))
  rw [kX_adds]
  refine list_c c55 cmpOr_c _ kZ (by decide) (fun l _ => cmpPath_ord l) ?_ ?_
  · exact List.Perm.swap _ _ _
  · intro zs' hp h1
    have key : ∀ a ∈ kZ, a.2 = -1 := by intro a ha; simp only [kZ, List.mem_cons, List.not_mem_nil, or_false] at ha; rcases ha with rfl | rfl <;> rfl
    refine dl_uni hp (fun a ha b hb e => Prod.ext e ((key a ha).trans (key b hb).symm)) h1 (List.pairwise_cons.2 ⟨fun b hb => ?_, List.pairwise_cons.2 ⟨fun b hb => by simp at hb, List.Pairwise.nil⟩⟩)
    obtain rfl := List.mem_singleton.1 hb
    have : cmpPath [(bApi, bGet), (bDb, bGet)] [(bApi, bGet), (bCache, bGet)] = 1 := by kernel_rfl
    show ¬ cmpPath [(bApi, bGet), (bDb, bGet)] [(bApi, bGet), (bCache, bGet)] < 0
    omega
theorem forms_true (c35 : SortC Try.prog 35 3) (c55 : SortC Try.prog 55 2) (p q r : List Nat) (hp : ∀ x ∈ p, x < 256) (hq : ∀ x ∈ q, x < 256) (hr : ∀ x ∈ r, x < 256) : PCall Try.prog 3 [planT p, planT q, planT r] (ft (.bool true)) :=
  forms_all c35 (known_all c35 c55) p q r hp hq hr (by have := madeP_size p; omega)
end Go.Proofs.Ytegcmciglakicaa
namespace Go.Proofs
open Go.Shelf Go.RowKit Go.Lib Go.Sort
theorem Ytegcmciglakicaa.sortC_of {P : Program} {ρ : Ren} (L : SlLaysF0.n6 P ρ) (k : Nat) (aE : ∀ w, (isAgg (ρ.t 24)).run P w = .ok true w) (zE : ∀ w, (Go.sizeOf (ρ.t 24)).run P w = .ok k w) (ok : Go.Exe.CallOk P (ρ.f 6)) : Go.Exe.SortC P (ρ.f 6) k :=
  ⟨ok, fun p cap fv w => AnyF.slices_SortFunc_none L p cap fv w, fun enc cf g blk cap n w hk h1 hO eg hcmp hH hblk hsz => by
    have h := AnyQ.slices_SortFunc L k aE zE enc hk h1 cf hO g #[] blk 0 cap (Array.range n) w eg (fun m os dk hd x y => hcmp m os dk (by simpa using hd) x y) hH hblk (by simpa using hsz)
    rw [Array.size_range] at h
    exact h⟩
end Go.Proofs
/-
  DERIVED: THE SHELF's CONTRACTS AT THIS DUMP, IN PLAIN WORDS (tools/lay-plain.mjs out of 'Uo.lean', which tools/lay-shelf.mjs wrote): THE SAME DECLARATIONS UNDER THE SAME NAMES: 'import', 'namespace', 'open', 'def', 'theorem' AND NOTHING ELSE: no command of the shelf's: FOR A HAND-IN. Each laying: the table of numbers ('.._ren') and one theorem, a field a fact of the dump's own or the kernel's comparison; each contract: ONE APPLICATION.
-/
namespace Go.Proofs
open Go.Shelf
def Try.sort35_ren : Go.Shelf.Ren := ⟨fun | 6 => 35 | 15 => 52 | 14 => 51 | 28 => 71 | 29 => 72 | 20 => 63 | 21 => 64 | 22 => 65 | 23 => 66 | 24 => 67 | 25 => 68 | 26 => 69 | 27 => 70 | 46 => 76 | 47 => 77 | 48 => 78 | 49 => 79 | 50 => 80 | 57 => 89 | n => n, fun | 22 => 25 | 24 => 27 | 25 => 29 | 3 => 3 | 39 => 87 | 0 => 0 | 53 => 111 | 55 => 96 | 4 => 4 | 46 => 104 | 45 => 103 | 50 => 108 | 5 => 5 | 9 => 9 | 66 => 117 | 70 => 121 | 76 => 128 | 77 => 129 | n => n, fun | n => n⟩
theorem Try.sort35 : Go.Proofs.SlLaysF0.n6 Try.prog Try.sort35_ren := {
  mixed := by kernel_rfl
  f6 := ⟨Try.f35.name, by decide, Try.func35.trans (congrArg some (by kernel_rfl))⟩
  f14 := ⟨Try.f51.name, by decide, Try.func51.trans (congrArg some (by kernel_rfl))⟩
  f15 := Try.func52.trans (congrArg some (by kernel_rfl))
  f20 := ⟨Try.f63.name, by decide, Try.func63.trans (congrArg some (by kernel_rfl))⟩
  f21 := ⟨Try.f64.name, by decide, Try.func64.trans (congrArg some (by kernel_rfl))⟩
  f22 := ⟨Try.f65.name, by decide, Try.func65.trans (congrArg some (by kernel_rfl))⟩
  f23 := ⟨Try.f66.name, by decide, Try.func66.trans (congrArg some (by kernel_rfl))⟩
  f24 := ⟨Try.f67.name, by decide, Try.func67.trans (congrArg some (by kernel_rfl))⟩
  f25 := ⟨Try.f68.name, by decide, Try.func68.trans (congrArg some (by kernel_rfl))⟩
  f26 := ⟨Try.f69.name, by decide, Try.func69.trans (congrArg some (by kernel_rfl))⟩
  f27 := ⟨Try.f70.name, by decide, Try.func70.trans (congrArg some (by kernel_rfl))⟩
  f28 := Try.func71.trans (congrArg some (by kernel_rfl))
  f29 := Try.func72.trans (congrArg some (by kernel_rfl))
  f46 := ⟨Try.f76.name, by decide, Try.func76.trans (congrArg some (by kernel_rfl))⟩
  f47 := Try.func77.trans (congrArg some (by kernel_rfl))
  f48 := Try.func78.trans (congrArg some (by kernel_rfl))
  f49 := ⟨Try.f79.name, by decide, Try.func79.trans (congrArg some (by kernel_rfl))⟩
  f50 := ⟨Try.f80.name, by decide, Try.func80.trans (congrArg some (by kernel_rfl))⟩
  f57 := ⟨Try.f89.name, by decide, Try.func89.trans (congrArg some (by kernel_rfl))⟩
  t0 := Try.underlying0
  a0 := Try.isAgg0
  z0 := Try.sizeOf0
  v0 := Try.zeroValue0
  t3 := Try.underlying3
  a3 := Try.isAgg3
  z3 := Try.sizeOf3
  v3 := Try.zeroValue3
  t4 := Try.underlying4
  a4 := Try.isAgg4
  z4 := Try.sizeOf4
  v4 := Try.zeroValue4
  t5 := Try.underlying5
  a5 := Try.isAgg5
  z5 := Try.sizeOf5
  v5 := Try.zeroValue5
  t9 := Try.underlying9
  a9 := Try.isAgg9
  z9 := Try.sizeOf9
  v9 := Try.zeroValue9
  t22 := Try.underlying25
  a22 := Try.isAgg25
  z22 := Try.sizeOf25
  v22 := Try.zeroValue25
  t25 := Try.underlying29
  a25 := Try.isAgg29
  z25 := Try.sizeOf29
  v25 := Try.zeroValue29
  t39 := Try.underlying87
  a39 := Try.isAgg87
  z39 := Try.sizeOf87
  v39 := Try.zeroValue87
  t45 := Try.underlying103
  a45 := Try.isAgg103
  z45 := Try.sizeOf103
  v45 := Try.zeroValue103
  t46 := Try.underlying104
  a46 := Try.isAgg104
  z46 := Try.sizeOf104
  v46 := Try.zeroValue104
  t50 := Try.underlying108
  a50 := Try.isAgg108
  z50 := Try.sizeOf108
  v50 := Try.zeroValue108
  t53 := Try.underlying111
  a53 := Try.isAgg111
  z53 := Try.sizeOf111
  v53 := Try.zeroValue111
  t55 := Try.underlying96
  a55 := Try.isAgg96
  z55 := Try.sizeOf96
  v55 := Try.zeroValue96
  t66 := Try.underlying117
  a66 := Try.isAgg117
  z66 := Try.sizeOf117
  v66 := Try.zeroValue117
  t70 := Try.underlying121
  a70 := Try.isAgg121
  z70 := Try.sizeOf121
  v70 := Try.zeroValue121
  t76 := Try.underlying128
  a76 := Try.isAgg128
  z76 := Try.sizeOf128
  v76 := Try.zeroValue128
  t77 := Try.underlying129
  a77 := Try.isAgg129
  z77 := Try.sizeOf129
  v77 := Try.zeroValue129 }
def Try.sort55_ren : Go.Shelf.Ren := ⟨fun | 6 => 55 | 15 => 52 | 14 => 73 | 28 => 71 | 29 => 72 | 20 => 81 | 21 => 82 | 22 => 83 | 23 => 84 | 24 => 85 | 25 => 86 | 26 => 87 | 27 => 88 | 46 => 90 | 47 => 77 | 48 => 78 | 49 => 91 | 50 => 92 | 57 => 93 | n => n, fun | 22 => 34 | 24 => 38 | 25 => 94 | 3 => 3 | 39 => 87 | 0 => 0 | 53 => 111 | 55 => 96 | 4 => 4 | 46 => 104 | 45 => 103 | 50 => 108 | 5 => 5 | 9 => 9 | 66 => 117 | 70 => 121 | 76 => 128 | 77 => 129 | n => n, fun | n => n⟩
theorem Try.sort55 : Go.Proofs.SlLaysF0.n6 Try.prog Try.sort55_ren := {
  mixed := by kernel_rfl
  f6 := ⟨Try.f55.name, by decide, Try.func55.trans (congrArg some (by kernel_rfl))⟩
  f14 := ⟨Try.f73.name, by decide, Try.func73.trans (congrArg some (by kernel_rfl))⟩
  f15 := Try.func52.trans (congrArg some (by kernel_rfl))
  f20 := ⟨Try.f81.name, by decide, Try.func81.trans (congrArg some (by kernel_rfl))⟩
  f21 := ⟨Try.f82.name, by decide, Try.func82.trans (congrArg some (by kernel_rfl))⟩
  f22 := ⟨Try.f83.name, by decide, Try.func83.trans (congrArg some (by kernel_rfl))⟩
  f23 := ⟨Try.f84.name, by decide, Try.func84.trans (congrArg some (by kernel_rfl))⟩
  f24 := ⟨Try.f85.name, by decide, Try.func85.trans (congrArg some (by kernel_rfl))⟩
  f25 := ⟨Try.f86.name, by decide, Try.func86.trans (congrArg some (by kernel_rfl))⟩
  f26 := ⟨Try.f87.name, by decide, Try.func87.trans (congrArg some (by kernel_rfl))⟩
  f27 := ⟨Try.f88.name, by decide, Try.func88.trans (congrArg some (by kernel_rfl))⟩
  f28 := Try.func71.trans (congrArg some (by kernel_rfl))
  f29 := Try.func72.trans (congrArg some (by kernel_rfl))
  f46 := ⟨Try.f90.name, by decide, Try.func90.trans (congrArg some (by kernel_rfl))⟩
  f47 := Try.func77.trans (congrArg some (by kernel_rfl))
  f48 := Try.func78.trans (congrArg some (by kernel_rfl))
  f49 := ⟨Try.f91.name, by decide, Try.func91.trans (congrArg some (by kernel_rfl))⟩
  f50 := ⟨Try.f92.name, by decide, Try.func92.trans (congrArg some (by kernel_rfl))⟩
  f57 := ⟨Try.f93.name, by decide, Try.func93.trans (congrArg some (by kernel_rfl))⟩
  t0 := Try.underlying0
  a0 := Try.isAgg0
  z0 := Try.sizeOf0
  v0 := Try.zeroValue0
  t3 := Try.underlying3
  a3 := Try.isAgg3
  z3 := Try.sizeOf3
  v3 := Try.zeroValue3
  t4 := Try.underlying4
  a4 := Try.isAgg4
  z4 := Try.sizeOf4
  v4 := Try.zeroValue4
  t5 := Try.underlying5
  a5 := Try.isAgg5
  z5 := Try.sizeOf5
  v5 := Try.zeroValue5
  t9 := Try.underlying9
  a9 := Try.isAgg9
  z9 := Try.sizeOf9
  v9 := Try.zeroValue9
  t22 := Try.underlying34
  a22 := Try.isAgg34
  z22 := Try.sizeOf34
  v22 := Try.zeroValue34
  t25 := Try.underlying94
  a25 := Try.isAgg94
  z25 := Try.sizeOf94
  v25 := Try.zeroValue94
  t39 := Try.underlying87
  a39 := Try.isAgg87
  z39 := Try.sizeOf87
  v39 := Try.zeroValue87
  t45 := Try.underlying103
  a45 := Try.isAgg103
  z45 := Try.sizeOf103
  v45 := Try.zeroValue103
  t46 := Try.underlying104
  a46 := Try.isAgg104
  z46 := Try.sizeOf104
  v46 := Try.zeroValue104
  t50 := Try.underlying108
  a50 := Try.isAgg108
  z50 := Try.sizeOf108
  v50 := Try.zeroValue108
  t53 := Try.underlying111
  a53 := Try.isAgg111
  z53 := Try.sizeOf111
  v53 := Try.zeroValue111
  t55 := Try.underlying96
  a55 := Try.isAgg96
  z55 := Try.sizeOf96
  v55 := Try.zeroValue96
  t66 := Try.underlying117
  a66 := Try.isAgg117
  z66 := Try.sizeOf117
  v66 := Try.zeroValue117
  t70 := Try.underlying121
  a70 := Try.isAgg121
  z70 := Try.sizeOf121
  v70 := Try.zeroValue121
  t76 := Try.underlying128
  a76 := Try.isAgg128
  z76 := Try.sizeOf128
  v76 := Try.zeroValue128
  t77 := Try.underlying129
  a77 := Try.isAgg129
  z77 := Try.sizeOf129
  v77 := Try.zeroValue129 }
end Go.Proofs
namespace Go.Proofs.Ytegcmciglakicaa
open Go.RowKit Go.Exe
theorem aggOf {P : Program} {t : TypeId} {n : Nat} (ht : TI P t = some (true, n)) (w : World) : (isAgg t).run P w = .ok true w := by
  obtain ⟨i, d, hi, hd, hg, hn⟩ := TI_spec ht
  unfold isAgg
  simp only [Sem.run_bind, run_underlying hd, Result.andThen_ok]
  rw [← hg]
  cases d <;> rfl
theorem sizeOf_ {P : Program} {t : TypeId} {g : Bool} {n : Nat} (ht : TI P t = some (g, n)) (w : World) : (Go.sizeOf t).run P w = .ok n w := by
  obtain ⟨i, d, hi, hd, hg, hn⟩ := TI_spec ht
  simp [Go.sizeOf, typeInfo, hi, hn]
theorem sort35_c : SortC Try.prog 35 3 := sortC_of Try.sort35 3 (aggOf tI27) (sizeOf_ tI27) ⟨Try.f35, Try.func35, by kernel_rfl, by kernel_rfl⟩
theorem sort55_c : SortC Try.prog 55 2 := sortC_of Try.sort55 2 (aggOf tI38) (sizeOf_ tI38) ⟨Try.f55, Try.func55, by kernel_rfl, by kernel_rfl⟩
end Go.Proofs.Ytegcmciglakicaa
namespace Go.Proofs.Ytegcmciglakicaa
open Go.ChangeShapes Go.WideShapes Go.ChangeAt Go.RowKit Go.Exe
set_option maxRecDepth 100000

theorem Try.own : ownKnob Try.prog.godebug = none := by kernel_rfl
theorem Try.laidOut : laidOutB Try.prog = true := by kernel_rfl
theorem bytes5 : Try.prog.bytesOf 5 = 1 := by kernel_rfl
/-- A row of bytes that came in is a plan. -/
theorem plan_in {H : Type} {enc : TypeId × Value → H} {w : World} {base j : Nat} {v : Value} {d : DataW H} {ps : List MemPlace} {ts : List TypeId} {ds : List (DataW H)} (hok : Value.okWide Try.prog w .any base 23 v)
    (h : DataW.Trod enc Try.prog w 0 (fun _ => true) true 23 v d ps) (hsz : (DataW.weightsEach Try.prog ts ds).all (· ≤ reachBytes) = true) (ht : ts[j]? = some 23) (hd : ds[j]? = some d) :
    ∃ p : List Nat, (∀ x ∈ p, x < 256) ∧ RepT Try.prog (fun _ => True) w U0 L0 v (planT p) := by
  obtain ⟨a0, len, cap, rfl⟩ := okWide_slice Try.underlying23 hok
  obtain ⟨fuel, h⟩ := h
  rcases open_ints (k := .u8) Try.underlying23 Try.underlying5 (by kernel_rfl) h with ⟨hc, hx⟩ | ⟨a, len', cap', zs, hc, _, hl, hm, hzs, hx, hcell, hwf⟩
  · simp [Value.cells] at hc
    obtain ⟨rfl, rfl, rfl⟩ := hc
    exact ⟨[], by simp, RepA.nil⟩
  · simp [Value.cells] at hc
    obtain ⟨rfl, rfl, rfl⟩ := hc
    simp only [Prod.mk.injEq] at hx
    obtain ⟨rfl, rfl⟩ := hx
    simp only [if_true] at hzs
    have hreach : len ≤ 140737488355328 := by
      have := sized_slice hsz ht hd Try.underlying23
      rw [bytes5] at this
      simp only [lits, List.length_map, List.length_take, List.length_drop, reachBytes] at this
      omega
    have hz : ∀ n ∈ zs, 0 ≤ n ∧ n < 256 := fun n hn => by
      have := hwf n hn
      simp [Lit.wf, IntKind.min, IntKind.max, IntKind.bits, IntKind.signed] at this
      omega
    refine ⟨(zs.take len).map Int.toNat, fun x hx => ?_, ?_⟩
    · obtain ⟨n, hn, rfl⟩ := List.mem_map.1 hx
      have := hz n (List.mem_of_mem_take hn)
      omega
    · have hlen : (((zs.take len).map Int.toNat).map bA).length = len := by simp; omega
      have key := RepA.mkSl (P := Try.prog) (ok := fun _ => True) (w := w) (e := 5) (xs := ((zs.take len).map Int.toNat).map bA) (ad := a) (c := cap) (sz := 1) (bs := 1) (uss := (zs.take len).map fun n => [.int .u8 n]) tE5 (by omega) (by rw [hlen]; omega) hm (by rw [hlen]; omega)
        (fun u hu => by obtain ⟨n, _, rfl⟩ := List.mem_map.1 hu; rfl) (fun q u hq => ?_) (fun _ => trivial) ?_
      · rw [hlen] at key
        exact key
      · have hf : ((zs.take len).map fun n => [Value.int .u8 n]).flatten = (zs.take len).map fun n => Value.int .u8 n := by
          generalize zs.take len = l
          induction l with
          | nil => rfl
          | cons x r ih => simp [ih]
        rw [hf, List.getElem?_map, Option.map_eq_some_iff] at hq
        obtain ⟨n, hn, rfl⟩ := hq
        have hql : q < len := by
          have := (List.getElem?_eq_some_iff.1 hn).1
          rw [List.length_take] at this
          omega
        rw [List.getElem?_take_of_lt hql] at hn
        rw [hcell q (by omega), List.getD_eq_getElem?_getD, hn]
        rfl
      · generalize hL : zs.take len = l
        have hl2 : ∀ n ∈ l, 0 ≤ n := fun n hn => (hz n (List.mem_of_mem_take (by rw [hL]; exact hn))).1
        clear hL hlen
        induction l with
        | nil => exact Al.nil
        | cons n r ih =>
          refine Al.cons (Al.cons ?_ Al.nil) (ih fun x hx => hl2 x (List.mem_cons_of_mem _ hx))
          have : ((n.toNat : Nat) : Int) = n := Int.toNat_of_nonneg (hl2 n (by simp))
          rw [this]
          exact RepA.flat rfl
end Go.Proofs.Ytegcmciglakicaa
