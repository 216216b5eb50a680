import Derived.Test.YtegcmciglakicaaUg
import Derived.Test.YtegcmciglakicaaTl
import Derived.Test.YtegcmciglakicaaTk
import Derived.Test.YtegcmciglakicaaTj
import Derived.Test.YtegcmciglakicaaXw
namespace Go.Proofs.Ytegcmciglakicaa
open Go.RowKit Go.Exe
set_option linter.unusedVariables false
set_option linter.unusedSimpArgs false
set_option maxHeartbeats 1000000
set_option maxRecDepth 100000
attribute [local irreducible] W AX Run RunD AStep AOp AOpX AStB AStH AStG Fits PCall GCall PostG Post Stop

abbrev bApi : ByteArray := ⟨#[97, 112, 105]⟩
abbrev bDb : ByteArray := ⟨#[100, 98]⟩
abbrev bCache : ByteArray := ⟨#[99, 97, 99, 104, 101]⟩
abbrev bGet : ByteArray := ⟨#[103, 101, 116]⟩
abbrev kX : Shp := .mk bApi bGet [.mk bDb bGet [], .mk bCache bGet [], .mk bDb bGet []]
abbrev kY : Shp := .mk bApi bGet [.mk bDb bGet []]
abbrev kC : Shp := .mk bApi bGet [.mk bCache bGet [], .mk bDb bGet [], .mk bDb bGet []]
abbrev kZ : List Dl := [([(bApi, bGet), (bCache, bGet)], -1), ([(bApi, bGet), (bDb, bGet)], -1)]
theorem kX_canon : kX.canon = kC := by kernel_rfl
theorem kX_size : kX.size = 4 := by rfl
theorem kX_depth : kX.depth = 2 := by rfl
theorem kX_adds : (kX.addS (-1) [] (kY.addS 1 [] [])) = [([(bApi, bGet)], 0), ([(bApi, bGet), (bDb, bGet)], -1), ([(bApi, bGet), (bCache, bGet)], -1)] := by kernel_rfl
theorem kXY : (kX.canon.cmp kY.canon == 0) = false := by kernel_rfl
theorem eqG59 : Try.prog.eqGuardType Try.prog.depth 59 = false := by kernel_rfl
theorem eqDb (w : World) : (Op.equal 59 (.agg #[.string ⟨#[100, 98]⟩, .string ⟨#[103, 101, 116]⟩]) (.agg #[.string ⟨#[100, 98]⟩, .string ⟨#[103, 101, 116]⟩])).run Try.prog w = .ok true w := by kernel_rfl
theorem known_c (c12 : PCall Try.prog 12 [shT kX] (shT kC)) (c15 : PCall Try.prog 15 [shT kX, shT kY] (ft (.bool false)))
    (c16 : PCall Try.prog 16 [shT kX] (ft (.int .i64 4))) (c18 : PCall Try.prog 18 [shT kX] (ft (.int .i64 2))) (c20 : PCall Try.prog 20 [shT kX, shT kY] (lsT kZ)) : PCall Try.prog 8 [] (ft (.bool true)) := by
  have l1 := leaf_c bApi
  have l2 := leaf_c bDb
  have l3 := leaf_c bCache
  simp only [shT_mk, lsT, avs, Shp.av, kX, kY, kC, kZ, dlA, List.map_cons, List.map_nil, nmA] at *
  refine PCall.intro (nt := 78) (rs := [.tmp 0]) Try.func8 rfl ⟨by kernel_rfl, by kernel_rfl, by kernel_rfl⟩ (by simp) ?_
  rintro ⟨P, w0, ok0, may, np, pblk⟩ rfl rfl
  have n3 : (((3 : Nat) : Int) == 3) = true := rfl
  have n2 : (((2 : Nat) : Int) == 2) = true := rfl
  have t1 : Int.toNat 1 = 1 := rfl
  repeat' (first
    | ((show W _ _ _ _); first | (refine W.seq fun K hK => ?_) | refine W.block ?_ | (refine W.reg rfl ?_; simp only [go_sem, reduceCtorEq, n3, n2, t1, List.getElem?_cons_succ, List.getElem?_cons_zero, Option.map_some]) | (refine W.regD Try_mo rfl rfl ?_; simp only [go_sem, reduceCtorEq, n3, n2, t1, List.getElem?_cons_succ, List.getElem?_cons_zero, Option.map_some]) | (refine W.skip ?_; simp only [go_sem]) | (refine W.exit ?_; simp only [go_sem]) | (refine W.ret (Post.ret ?_); simp only [go_sem, reduceCtorEq, n3, n2, t1, List.getElem?_cons_succ, List.getElem?_cons_zero, Option.map_some]) | refine W.condT rfl ?_ | refine W.condF rfl ?_ | refine W.cond rfl (fun h => ?_) (fun h => ?_))
    | ((show AX _ _ _ _ _); first | (refine AX.pcall rfl rfl (by simp only [go_sem, unim_im]; rfl) (by solve_by_elim) rfl rfl ?_; simp only [go_sem, reduceCtorEq, n3, n2, t1, List.getElem?_cons_succ, List.getElem?_cons_zero, Option.map_some]) | (refine AX.pcallF rfl rfl (by simp only [go_sem, unim_im]; rfl) (by simp only [go_sem, unim_im]; rfl) (by solve_by_elim) rfl rfl ?_; simp only [go_sem, reduceCtorEq, n3, n2, t1, List.getElem?_cons_succ, List.getElem?_cons_zero, Option.map_some]) | (refine AX.lookup rfl (by first | exact tM65 | exact tM66) (by first | exact tG2 | exact tG3 | exact tG4 | exact tG5 | exact tG7 | exact tG9 | exact tG12 | exact tG13 | exact tG18 | exact tG19 | exact tG20 | exact tG21 | exact tG22 | exact tG23 | exact tG25 | exact tG26 | exact tG27 | exact tG34 | exact tG36 | exact tG37 | exact tG38 | exact tG46 | exact tG49 | exact tG50 | exact tG51 | exact tG58 | exact tG59 | exact tG65 | exact tG66 | exact tG69 | exact tG70 | exact tG72 | exact tG74 | exact tG75 | exact tG79 | exact tG80 | exact tG87 | exact tG90 | exact tG95 | exact tG96 | exact tG100 | exact tG103 | exact tG111 | exact tG117 | exact tG121 | exact tG128 | exact tG134 | exact tG142 | exact tG145 | exact tG148) (by first | exact kd9) rfl rfl rfl (by assumption) rfl ?_; simp only [go_sem, reduceCtorEq, n3, n2, t1, List.getElem?_cons_succ, List.getElem?_cons_zero, Option.map_some]) | (refine AX.mapUpdate rfl rfl (by first | exact tM65 | exact tM66) (by first | exact kd9) rfl rfl rfl (by assumption) rfl (by simp only [go_sem, reduceCtorEq, n3, n2, t1, List.getElem?_cons_succ, List.getElem?_cons_zero, Option.map_some]) ?_; simp only [go_sem, reduceCtorEq, n3, n2, t1, List.getElem?_cons_succ, List.getElem?_cons_zero, Option.map_some]) | (refine AX.makeMap rfl (by first | exact tM65 | exact tM66) rfl ?_; simp only [go_sem, reduceCtorEq, n3, n2, t1, List.getElem?_cons_succ, List.getElem?_cons_zero, Option.map_some]) | (refine AX.lenMap rfl (by first | exact tM65 | exact tM66) rfl rfl rfl ?_; simp only [go_sem, reduceCtorEq, n3, n2, t1, List.getElem?_cons_succ, List.getElem?_cons_zero, Option.map_some]) | (refine AX.range rfl (by first | exact tM65 | exact tM66) rfl rfl rfl ?_; simp only [go_sem, reduceCtorEq, n3, n2, t1, List.getElem?_cons_succ, List.getElem?_cons_zero, Option.map_some]) | (refine AX.appendStr rfl (by first | exact tL22 | exact tL23 | exact tL25 | exact tL34 | exact tL36 | exact tL50 | exact tL100) (by simp only [go_sem]) (by simp only [go_sem]) (by simp only [go_sem]) rfl rfl rfl rfl (by simp only [go_sem, reduceCtorEq, n3, n2, t1, List.getElem?_cons_succ, List.getElem?_cons_zero, Option.map_some]; first | omega | (simp; omega)) ?_; simp only [go_sem, reduceCtorEq, n3, n2, t1, List.getElem?_cons_succ, List.getElem?_cons_zero, Option.map_some]) | (refine AX.shr rfl rfl rfl rfl (by first | decide | omega) ?_; simp only [go_sem, reduceCtorEq, n3, n2, t1, List.getElem?_cons_succ, List.getElem?_cons_zero, Option.map_some]) | (refine AX.shl rfl rfl rfl rfl (by first | decide | omega) ?_; simp only [go_sem, reduceCtorEq, n3, n2, t1, List.getElem?_cons_succ, List.getElem?_cons_zero, Option.map_some]) | (refine AX.bits rfl rfl rfl (by assumption) rfl ?_; simp only [go_sem, reduceCtorEq, n3, n2, t1, List.getElem?_cons_succ, List.getElem?_cons_zero, Option.map_some]) | (refine AX.nilSl rfl (by first | exact tL22 | exact tL23 | exact tL25 | exact tL34 | exact tL36 | exact tL50 | exact tL100) (by first | exact .inl rfl | exact .inr rfl) rfl rfl rfl ?_; simp only [go_sem, reduceCtorEq, n3, n2, t1, List.getElem?_cons_succ, List.getElem?_cons_zero, Option.map_some]))
    | ((show indepK _ _ _ _ = true ∧ _); refine And.intro (by kernel_rfl) ?_)
    | ((show _ ∧ _); refine And.intro (by first | omega | assumption | (simp only [go_sem]; omega) | (simp; omega) | (simp; done)) ?_)
    | (refine hK _ ?_; clear hK K)
    | (clear hK K; refine hK _ ?_; clear hK K)
    | (clear hK K; clear hK K; refine hK _ ?_; clear hK K)
    | (clear hK K; clear hK K; clear hK K; refine hK _ ?_; clear hK K)
    | fail)
  refine AX.eqKey (s := _) rfl rfl rfl eqG59 eqDb rfl ?_
  simp only [go_sem]
  repeat' (first
    | ((show W _ _ _ _); first | (refine W.seq fun K hK => ?_) | refine W.block ?_ | (refine W.reg rfl ?_; simp only [go_sem, reduceCtorEq, n3, n2, t1, List.getElem?_cons_succ, List.getElem?_cons_zero, Option.map_some]) | (refine W.regD Try_mo rfl rfl ?_; simp only [go_sem, reduceCtorEq, n3, n2, t1, List.getElem?_cons_succ, List.getElem?_cons_zero, Option.map_some]) | (refine W.skip ?_; simp only [go_sem]) | (refine W.exit ?_; simp only [go_sem]) | (refine W.ret (Post.ret ?_); simp only [go_sem, reduceCtorEq, n3, n2, t1, List.getElem?_cons_succ, List.getElem?_cons_zero, Option.map_some]) | refine W.condT rfl ?_ | refine W.condF rfl ?_ | refine W.cond rfl (fun h => ?_) (fun h => ?_))
    | ((show AX _ _ _ _ _); first | (refine AX.pcall rfl rfl (by simp only [go_sem, unim_im]; rfl) (by solve_by_elim) rfl rfl ?_; simp only [go_sem, reduceCtorEq, n3, n2, t1, List.getElem?_cons_succ, List.getElem?_cons_zero, Option.map_some]) | (refine AX.pcallF rfl rfl (by simp only [go_sem, unim_im]; rfl) (by simp only [go_sem, unim_im]; rfl) (by solve_by_elim) rfl rfl ?_; simp only [go_sem, reduceCtorEq, n3, n2, t1, List.getElem?_cons_succ, List.getElem?_cons_zero, Option.map_some]) | (refine AX.lookup rfl (by first | exact tM65 | exact tM66) (by first | exact tG2 | exact tG3 | exact tG4 | exact tG5 | exact tG7 | exact tG9 | exact tG12 | exact tG13 | exact tG18 | exact tG19 | exact tG20 | exact tG21 | exact tG22 | exact tG23 | exact tG25 | exact tG26 | exact tG27 | exact tG34 | exact tG36 | exact tG37 | exact tG38 | exact tG46 | exact tG49 | exact tG50 | exact tG51 | exact tG58 | exact tG59 | exact tG65 | exact tG66 | exact tG69 | exact tG70 | exact tG72 | exact tG74 | exact tG75 | exact tG79 | exact tG80 | exact tG87 | exact tG90 | exact tG95 | exact tG96 | exact tG100 | exact tG103 | exact tG111 | exact tG117 | exact tG121 | exact tG128 | exact tG134 | exact tG142 | exact tG145 | exact tG148) (by first | exact kd9) rfl rfl rfl (by assumption) rfl ?_; simp only [go_sem, reduceCtorEq, n3, n2, t1, List.getElem?_cons_succ, List.getElem?_cons_zero, Option.map_some]) | (refine AX.mapUpdate rfl rfl (by first | exact tM65 | exact tM66) (by first | exact kd9) rfl rfl rfl (by assumption) rfl (by simp only [go_sem, reduceCtorEq, n3, n2, t1, List.getElem?_cons_succ, List.getElem?_cons_zero, Option.map_some]) ?_; simp only [go_sem, reduceCtorEq, n3, n2, t1, List.getElem?_cons_succ, List.getElem?_cons_zero, Option.map_some]) | (refine AX.makeMap rfl (by first | exact tM65 | exact tM66) rfl ?_; simp only [go_sem, reduceCtorEq, n3, n2, t1, List.getElem?_cons_succ, List.getElem?_cons_zero, Option.map_some]) | (refine AX.lenMap rfl (by first | exact tM65 | exact tM66) rfl rfl rfl ?_; simp only [go_sem, reduceCtorEq, n3, n2, t1, List.getElem?_cons_succ, List.getElem?_cons_zero, Option.map_some]) | (refine AX.range rfl (by first | exact tM65 | exact tM66) rfl rfl rfl ?_; simp only [go_sem, reduceCtorEq, n3, n2, t1, List.getElem?_cons_succ, List.getElem?_cons_zero, Option.map_some]) | (refine AX.appendStr rfl (by first | exact tL22 | exact tL23 | exact tL25 | exact tL34 | exact tL36 | exact tL50 | exact tL100) (by simp only [go_sem]) (by simp only [go_sem]) (by simp only [go_sem]) rfl rfl rfl rfl (by simp only [go_sem, reduceCtorEq, n3, n2, t1, List.getElem?_cons_succ, List.getElem?_cons_zero, Option.map_some]; first | omega | (simp; omega)) ?_; simp only [go_sem, reduceCtorEq, n3, n2, t1, List.getElem?_cons_succ, List.getElem?_cons_zero, Option.map_some]) | (refine AX.shr rfl rfl rfl rfl (by first | decide | omega) ?_; simp only [go_sem, reduceCtorEq, n3, n2, t1, List.getElem?_cons_succ, List.getElem?_cons_zero, Option.map_some]) | (refine AX.shl rfl rfl rfl rfl (by first | decide | omega) ?_; simp only [go_sem, reduceCtorEq, n3, n2, t1, List.getElem?_cons_succ, List.getElem?_cons_zero, Option.map_some]) | (refine AX.bits rfl rfl rfl (by assumption) rfl ?_; simp only [go_sem, reduceCtorEq, n3, n2, t1, List.getElem?_cons_succ, List.getElem?_cons_zero, Option.map_some]) | (refine AX.nilSl rfl (by first | exact tL22 | exact tL23 | exact tL25 | exact tL34 | exact tL36 | exact tL50 | exact tL100) (by first | exact .inl rfl | exact .inr rfl) rfl rfl rfl ?_; simp only [go_sem, reduceCtorEq, n3, n2, t1, List.getElem?_cons_succ, List.getElem?_cons_zero, Option.map_some]))
    | ((show indepK _ _ _ _ = true ∧ _); refine And.intro (by kernel_rfl) ?_)
    | ((show _ ∧ _); refine And.intro (by first | omega | assumption | (simp only [go_sem]; omega) | (simp; omega) | (simp; done)) ?_)
    | (refine hK _ ?_; clear hK K)
    | (clear hK K; refine hK _ ?_; clear hK K)
    | (clear hK K; clear hK K; refine hK _ ?_; clear hK K)
    | (clear hK K; clear hK K; clear hK K; refine hK _ ?_; clear hK K)
    | fail)
end Go.Proofs.Ytegcmciglakicaa
