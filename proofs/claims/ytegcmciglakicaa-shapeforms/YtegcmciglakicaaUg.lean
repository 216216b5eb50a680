import Derived.Test.YtegcmciglakicaaUf
namespace Go.Proofs.Ytegcmciglakicaa
open Go.RowKit Go.Exe
set_option linter.unusedVariables false
set_option linter.unusedSimpArgs false
set_option maxHeartbeats 1000000
set_option maxRecDepth 100000
attribute [local irreducible] W AX Run RunD AStep AOp AOpX AStB AStH AStG Fits PCall GCall PostG Post Stop

theorem addD_len (p : List Nm) (b : Int) : ∀ ds : List Dl, (addD p b ds).length ≤ ds.length + 1
  | [] => by simp [addD]
  | d :: r => by
    have := addD_len p b r
    simp only [addD]
    split <;> simp <;> omega
mutual
theorem addS_len (b : Int) : ∀ (x : Shp) (above : List Nm) (ds : List Dl), (x.addS b above ds).length * 32 ≤ ds.length * 32 + x.tw
  | .mk s o ks, above, ds => by
    have h1 := addsS_len b ks (above ++ [(s, o)]) (addD (above ++ [(s, o)]) b ds)
    have h2 := addD_len (above ++ [(s, o)]) b ds
    simp only [Shp.addS, Shp.tw]
    omega
theorem addsS_len (b : Int) : ∀ (l : List Shp) (path : List Nm) (ds : List Dl), (addsS b l path ds).length * 32 ≤ ds.length * 32 + tws l
  | [], path, ds => by simp [addsS, tws]
  | x :: r, path, ds => by
    have h1 := addsS_len b r path (x.addS b path ds)
    have h2 := addS_len b x path ds
    simp only [addsS, tws]
    omega
end
theorem add_top (by_ : Int) (hby : IntKind.i64.wrap (0 + by_) = by_) (x : Shp) (ds : List Dl) (hn : (ds.map fun d => pkey d.1).Nodup) (hw : x.tw ≤ 140737488355328) :
    GCall Try.prog 38 1 (St.g [.c (.mp 0), shT x, ft (.slice none 0 0), ft (.int .i64 by_)] [(0, .map 9 (dE ds))] 1) (St.r (.t []) [(0, .map 9 (dE (x.addS by_ [] ds)))] 1) := by
  refine (add_all by_ hby x [] ds hn (by simpa [pathW] using hw)).fits ?_
  rintro ⟨P, w0, ok0, may, np, pblk⟩ rfl rfl
  obtain ⟨s, o, ks⟩ := x
  simp only [St.g, shT_mk]
  refine Fits.nilSl 2 59 rfl ?_
  refine Fits.fit [(0, 0)] [0, 1, 2, 3] 1 rfl rfl ?_
  simp only [go_sem, rnEs_dE, List.map_nil]
  exact Fits.rfl
def lsT (zs : List Dl) : TV := .c (.im (.sl 38 (zs.map dlA)))
theorem paths_c (x : Shp) (zs : List Dl) (hl : PCall Try.prog 39 [.c (.im (.mp 9 (dA (x.addS 1 [] []))))] (lsT zs)) (hw : x.tw ≤ 140737488355328) : PCall Try.prog 24 [shT x] (lsT zs) := by
  have hc := add_top 1 (by decide) x [] (by simp) hw
  have d0 : dE [] = [] := rfl
  rw [d0] at hc
  simp only [lsT] at *
  obtain ⟨s, o, ks⟩ := x
  simp only [shT_mk] at *
  generalize Shp.addS 1 (.mk s o ks) [] [] = ds at *
  refine PCall.intro (nt := 10) (rs := [.tmp 2]) Try.func24 rfl ⟨by kernel_rfl, by kernel_rfl, by kernel_rfl⟩ (by simp) ?_
  rintro ⟨P, w0, ok0, may, np, pblk⟩ rfl rfl
  repeat' (first
    | ((show W _ _ _ _); first | (refine W.seq fun K hK => ?_) | refine W.block ?_ | (refine W.reg rfl ?_; simp only [go_sem, reduceCtorEq]) | (refine W.regD Try_mo rfl rfl ?_; simp only [go_sem, reduceCtorEq]) | (refine W.skip ?_; simp only [go_sem]) | (refine W.exit ?_; simp only [go_sem]) | (refine W.ret (Post.ret ?_); simp only [go_sem, reduceCtorEq]) | refine W.condT rfl ?_ | refine W.condF rfl ?_ | refine W.cond rfl (fun h => ?_) (fun h => ?_))
    | ((show AX _ _ _ _ _); first | (refine AX.pcall rfl rfl (by simp only [go_sem, unim_im]; rfl) (by solve_by_elim) rfl rfl ?_; simp only [go_sem, reduceCtorEq]) | (refine AX.pcallF rfl rfl (by simp only [go_sem, unim_im]; rfl) (by simp only [go_sem, unim_im]; rfl) (by solve_by_elim) rfl rfl ?_; simp only [go_sem, reduceCtorEq]) | (refine AX.lookup rfl (by first | exact tM65 | exact tM66) (by first | exact tG2 | exact tG3 | exact tG4 | exact tG5 | exact tG7 | exact tG9 | exact tG12 | exact tG13 | exact tG18 | exact tG19 | exact tG20 | exact tG21 | exact tG22 | exact tG23 | exact tG25 | exact tG26 | exact tG27 | exact tG34 | exact tG36 | exact tG37 | exact tG38 | exact tG46 | exact tG49 | exact tG50 | exact tG51 | exact tG58 | exact tG59 | exact tG65 | exact tG66 | exact tG69 | exact tG70 | exact tG72 | exact tG74 | exact tG75 | exact tG79 | exact tG80 | exact tG87 | exact tG90 | exact tG95 | exact tG96 | exact tG100 | exact tG103 | exact tG111 | exact tG117 | exact tG121 | exact tG128 | exact tG134 | exact tG142 | exact tG145 | exact tG148) (by first | exact kd9) rfl rfl rfl (by assumption) rfl ?_; simp only [go_sem, reduceCtorEq]) | (refine AX.mapUpdate rfl rfl (by first | exact tM65 | exact tM66) (by first | exact kd9) rfl rfl rfl (by assumption) rfl (by simp only [go_sem, reduceCtorEq]) ?_; simp only [go_sem, reduceCtorEq]) | (refine AX.makeMap rfl (by first | exact tM65 | exact tM66) rfl ?_; simp only [go_sem, reduceCtorEq]) | (refine AX.lenMap rfl (by first | exact tM65 | exact tM66) rfl rfl rfl ?_; simp only [go_sem, reduceCtorEq]) | (refine AX.range rfl (by first | exact tM65 | exact tM66) rfl rfl rfl ?_; simp only [go_sem, reduceCtorEq]) | (refine AX.appendStr rfl (by first | exact tL22 | exact tL23 | exact tL25 | exact tL34 | exact tL36 | exact tL50 | exact tL100) (by simp only [go_sem]) (by simp only [go_sem]) (by simp only [go_sem]) rfl rfl rfl rfl (by simp only [go_sem, reduceCtorEq]; first | omega | (simp; omega)) ?_; simp only [go_sem, reduceCtorEq]) | (refine AX.shr rfl rfl rfl rfl (by first | decide | omega) ?_; simp only [go_sem, reduceCtorEq]) | (refine AX.shl rfl rfl rfl rfl (by first | decide | omega) ?_; simp only [go_sem, reduceCtorEq]) | (refine AX.bits rfl rfl rfl (by assumption) rfl ?_; simp only [go_sem, reduceCtorEq]) | (refine AX.nilSl rfl (by first | exact tL22 | exact tL23 | exact tL25 | exact tL34 | exact tL36 | exact tL50 | exact tL100) (by first | exact .inl rfl | exact .inr rfl) rfl rfl rfl ?_; simp only [go_sem, reduceCtorEq]))
    | ((show indepK _ _ _ _ = true ∧ _); refine And.intro (by kernel_rfl) ?_)
    | ((show _ ∧ _); refine And.intro (by first | omega | assumption | (simp only [go_sem]; omega) | (simp; omega) | (simp; done)) ?_)
    | (refine hK _ ?_; clear hK K)
    | (clear hK K; refine hK _ ?_; clear hK K)
    | (clear hK K; clear hK K; refine hK _ ?_; clear hK K)
    | (clear hK K; clear hK K; clear hK K; refine hK _ ?_; clear hK K)
    | fail)
  refine AX.gcall [2] rfl rfl (hc) (by simp only [go_sem, reduceCtorEq, rnEs_dE]) (by simp only [go_sem, reduceCtorEq, rnEs_dE]) rfl rfl (by simp only [go_sem, Obj.owns]) rfl (by simp only [go_sem, Obj.owns]) rfl rfl ?_
  simp only [go_sem, reduceCtorEq, rnEs_dE]
  repeat' (first
    | ((show W _ _ _ _); first | refine W.stop (id := 3) ?_ | (refine W.seq fun K hK => ?_) | refine W.block ?_ | (refine W.reg rfl ?_; simp only [go_sem, reduceCtorEq]) | (refine W.regD Try_mo rfl rfl ?_; simp only [go_sem, reduceCtorEq]) | (refine W.skip ?_; simp only [go_sem]) | (refine W.exit ?_; simp only [go_sem]) | (refine W.ret (Post.ret ?_); simp only [go_sem, reduceCtorEq]) | refine W.condT rfl ?_ | refine W.condF rfl ?_ | refine W.cond rfl (fun h => ?_) (fun h => ?_))
    | ((show AX _ _ _ _ _); first | (refine AX.pcall rfl rfl (by simp only [go_sem, unim_im]; rfl) (by solve_by_elim) rfl rfl ?_; simp only [go_sem, reduceCtorEq]) | (refine AX.pcallF rfl rfl (by simp only [go_sem, unim_im]; rfl) (by simp only [go_sem, unim_im]; rfl) (by solve_by_elim) rfl rfl ?_; simp only [go_sem, reduceCtorEq]) | (refine AX.lookup rfl (by first | exact tM65 | exact tM66) (by first | exact tG2 | exact tG3 | exact tG4 | exact tG5 | exact tG7 | exact tG9 | exact tG12 | exact tG13 | exact tG18 | exact tG19 | exact tG20 | exact tG21 | exact tG22 | exact tG23 | exact tG25 | exact tG26 | exact tG27 | exact tG34 | exact tG36 | exact tG37 | exact tG38 | exact tG46 | exact tG49 | exact tG50 | exact tG51 | exact tG58 | exact tG59 | exact tG65 | exact tG66 | exact tG69 | exact tG70 | exact tG72 | exact tG74 | exact tG75 | exact tG79 | exact tG80 | exact tG87 | exact tG90 | exact tG95 | exact tG96 | exact tG100 | exact tG103 | exact tG111 | exact tG117 | exact tG121 | exact tG128 | exact tG134 | exact tG142 | exact tG145 | exact tG148) (by first | exact kd9) rfl rfl rfl (by assumption) rfl ?_; simp only [go_sem, reduceCtorEq]) | (refine AX.mapUpdate rfl rfl (by first | exact tM65 | exact tM66) (by first | exact kd9) rfl rfl rfl (by assumption) rfl (by simp only [go_sem, reduceCtorEq]) ?_; simp only [go_sem, reduceCtorEq]) | (refine AX.makeMap rfl (by first | exact tM65 | exact tM66) rfl ?_; simp only [go_sem, reduceCtorEq]) | (refine AX.lenMap rfl (by first | exact tM65 | exact tM66) rfl rfl rfl ?_; simp only [go_sem, reduceCtorEq]) | (refine AX.range rfl (by first | exact tM65 | exact tM66) rfl rfl rfl ?_; simp only [go_sem, reduceCtorEq]) | (refine AX.appendStr rfl (by first | exact tL22 | exact tL23 | exact tL25 | exact tL34 | exact tL36 | exact tL50 | exact tL100) (by simp only [go_sem]) (by simp only [go_sem]) (by simp only [go_sem]) rfl rfl rfl rfl (by simp only [go_sem, reduceCtorEq]; first | omega | (simp; omega)) ?_; simp only [go_sem, reduceCtorEq]) | (refine AX.shr rfl rfl rfl rfl (by first | decide | omega) ?_; simp only [go_sem, reduceCtorEq]) | (refine AX.shl rfl rfl rfl rfl (by first | decide | omega) ?_; simp only [go_sem, reduceCtorEq]) | (refine AX.bits rfl rfl rfl (by assumption) rfl ?_; simp only [go_sem, reduceCtorEq]) | (refine AX.nilSl rfl (by first | exact tL22 | exact tL23 | exact tL25 | exact tL34 | exact tL36 | exact tL50 | exact tL100) (by first | exact .inl rfl | exact .inr rfl) rfl rfl rfl ?_; simp only [go_sem, reduceCtorEq]))
    | ((show indepK _ _ _ _ = true ∧ _); refine And.intro (by kernel_rfl) ?_)
    | ((show _ ∧ _); refine And.intro (by first | omega | assumption | (simp only [go_sem]; omega) | (simp; omega) | (simp; done)) ?_)
    | (refine hK _ ?_; clear hK K)
    | (clear hK K; refine hK _ ?_; clear hK K)
    | (clear hK K; clear hK K; refine hK _ ?_; clear hK K)
    | (clear hK K; clear hK K; clear hK K; refine hK _ ?_; clear hK K)
    | fail)
  refine Stop.out ?_
  refine W.fits (s' := { t := [(3, .c (.mp 2))], h := [(2, .fro (.mp 9 (dA ds)))], nx := 7, ex := [], nt := 10 }) (Fits.freezeM 2 rfl (dE_close ds) ?_) ?_
  · simp only [go_sem]
    refine Fits.fit [(2, 2)] [3] 7 rfl rfl ?_
    simp only [go_sem]
    exact Fits.rfl
  repeat' (first
    | ((show W _ _ _ _); first | (refine W.seq fun K hK => ?_) | refine W.block ?_ | (refine W.reg rfl ?_; simp only [go_sem, reduceCtorEq]) | (refine W.regD Try_mo rfl rfl ?_; simp only [go_sem, reduceCtorEq]) | (refine W.skip ?_; simp only [go_sem]) | (refine W.exit ?_; simp only [go_sem]) | (refine W.ret (Post.ret ?_); simp only [go_sem, reduceCtorEq]) | refine W.condT rfl ?_ | refine W.condF rfl ?_ | refine W.cond rfl (fun h => ?_) (fun h => ?_))
    | ((show AX _ _ _ _ _); first | (refine AX.pcall rfl rfl (by simp only [go_sem, unim_im]; rfl) (by solve_by_elim) rfl rfl ?_; simp only [go_sem, reduceCtorEq]) | (refine AX.pcallF rfl rfl (by simp only [go_sem, unim_im]; rfl) (by simp only [go_sem, unim_im]; rfl) (by solve_by_elim) rfl rfl ?_; simp only [go_sem, reduceCtorEq]) | (refine AX.lookup rfl (by first | exact tM65 | exact tM66) (by first | exact tG2 | exact tG3 | exact tG4 | exact tG5 | exact tG7 | exact tG9 | exact tG12 | exact tG13 | exact tG18 | exact tG19 | exact tG20 | exact tG21 | exact tG22 | exact tG23 | exact tG25 | exact tG26 | exact tG27 | exact tG34 | exact tG36 | exact tG37 | exact tG38 | exact tG46 | exact tG49 | exact tG50 | exact tG51 | exact tG58 | exact tG59 | exact tG65 | exact tG66 | exact tG69 | exact tG70 | exact tG72 | exact tG74 | exact tG75 | exact tG79 | exact tG80 | exact tG87 | exact tG90 | exact tG95 | exact tG96 | exact tG100 | exact tG103 | exact tG111 | exact tG117 | exact tG121 | exact tG128 | exact tG134 | exact tG142 | exact tG145 | exact tG148) (by first | exact kd9) rfl rfl rfl (by assumption) rfl ?_; simp only [go_sem, reduceCtorEq]) | (refine AX.mapUpdate rfl rfl (by first | exact tM65 | exact tM66) (by first | exact kd9) rfl rfl rfl (by assumption) rfl (by simp only [go_sem, reduceCtorEq]) ?_; simp only [go_sem, reduceCtorEq]) | (refine AX.makeMap rfl (by first | exact tM65 | exact tM66) rfl ?_; simp only [go_sem, reduceCtorEq]) | (refine AX.lenMap rfl (by first | exact tM65 | exact tM66) rfl rfl rfl ?_; simp only [go_sem, reduceCtorEq]) | (refine AX.range rfl (by first | exact tM65 | exact tM66) rfl rfl rfl ?_; simp only [go_sem, reduceCtorEq]) | (refine AX.appendStr rfl (by first | exact tL22 | exact tL23 | exact tL25 | exact tL34 | exact tL36 | exact tL50 | exact tL100) (by simp only [go_sem]) (by simp only [go_sem]) (by simp only [go_sem]) rfl rfl rfl rfl (by simp only [go_sem, reduceCtorEq]; first | omega | (simp; omega)) ?_; simp only [go_sem, reduceCtorEq]) | (refine AX.shr rfl rfl rfl rfl (by first | decide | omega) ?_; simp only [go_sem, reduceCtorEq]) | (refine AX.shl rfl rfl rfl rfl (by first | decide | omega) ?_; simp only [go_sem, reduceCtorEq]) | (refine AX.bits rfl rfl rfl (by assumption) rfl ?_; simp only [go_sem, reduceCtorEq]) | (refine AX.nilSl rfl (by first | exact tL22 | exact tL23 | exact tL25 | exact tL34 | exact tL36 | exact tL50 | exact tL100) (by first | exact .inl rfl | exact .inr rfl) rfl rfl rfl ?_; simp only [go_sem, reduceCtorEq]))
    | ((show indepK _ _ _ _ = true ∧ _); refine And.intro (by kernel_rfl) ?_)
    | ((show _ ∧ _); refine And.intro (by first | omega | assumption | (simp only [go_sem]; omega) | (simp; omega) | (simp; done)) ?_)
    | (refine hK _ ?_; clear hK K)
    | (clear hK K; refine hK _ ?_; clear hK K)
    | (clear hK K; clear hK K; refine hK _ ?_; clear hK K)
    | (clear hK K; clear hK K; clear hK K; refine hK _ ?_; clear hK K)
    | fail)
theorem diff_c (x y : Shp) (zs : List Dl) (hl : PCall Try.prog 39 [.c (.im (.mp 9 (dA (x.addS (-1) [] (y.addS 1 [] [])))))] (lsT zs)) (hx : x.tw ≤ 140737488355328) (hy : y.tw ≤ 140737488355328) : PCall Try.prog 20 [shT x, shT y] (lsT zs) := by
  have hc := add_top 1 (by decide) y [] (by simp) hy
  have hc2 := add_top (-1) (by decide) x (y.addS 1 [] []) (addS_keys 1 y [] [] (by simp)) hx
  have d0 : dE [] = [] := rfl
  rw [d0] at hc
  simp only [lsT] at *
  obtain ⟨s, o, ks⟩ := x
  obtain ⟨s', o', ks'⟩ := y
  simp only [shT_mk] at *
  generalize Shp.addS 1 (.mk s' o' ks') [] [] = ds at *
  generalize Shp.addS (-1) (.mk s o ks) [] ds = ds2 at *
  refine PCall.intro (nt := 15) (rs := [.tmp 4]) Try.func20 rfl ⟨by kernel_rfl, by kernel_rfl, by kernel_rfl⟩ (by simp) ?_
  rintro ⟨P, w0, ok0, may, np, pblk⟩ rfl rfl
  repeat' (first
    | ((show W _ _ _ _); first | (refine W.seq fun K hK => ?_) | refine W.block ?_ | (refine W.reg rfl ?_; simp only [go_sem, reduceCtorEq]) | (refine W.regD Try_mo rfl rfl ?_; simp only [go_sem, reduceCtorEq]) | (refine W.skip ?_; simp only [go_sem]) | (refine W.exit ?_; simp only [go_sem]) | (refine W.ret (Post.ret ?_); simp only [go_sem, reduceCtorEq]) | refine W.condT rfl ?_ | refine W.condF rfl ?_ | refine W.cond rfl (fun h => ?_) (fun h => ?_))
    | ((show AX _ _ _ _ _); first | (refine AX.pcall rfl rfl (by simp only [go_sem, unim_im]; rfl) (by solve_by_elim) rfl rfl ?_; simp only [go_sem, reduceCtorEq]) | (refine AX.pcallF rfl rfl (by simp only [go_sem, unim_im]; rfl) (by simp only [go_sem, unim_im]; rfl) (by solve_by_elim) rfl rfl ?_; simp only [go_sem, reduceCtorEq]) | (refine AX.lookup rfl (by first | exact tM65 | exact tM66) (by first | exact tG2 | exact tG3 | exact tG4 | exact tG5 | exact tG7 | exact tG9 | exact tG12 | exact tG13 | exact tG18 | exact tG19 | exact tG20 | exact tG21 | exact tG22 | exact tG23 | exact tG25 | exact tG26 | exact tG27 | exact tG34 | exact tG36 | exact tG37 | exact tG38 | exact tG46 | exact tG49 | exact tG50 | exact tG51 | exact tG58 | exact tG59 | exact tG65 | exact tG66 | exact tG69 | exact tG70 | exact tG72 | exact tG74 | exact tG75 | exact tG79 | exact tG80 | exact tG87 | exact tG90 | exact tG95 | exact tG96 | exact tG100 | exact tG103 | exact tG111 | exact tG117 | exact tG121 | exact tG128 | exact tG134 | exact tG142 | exact tG145 | exact tG148) (by first | exact kd9) rfl rfl rfl (by assumption) rfl ?_; simp only [go_sem, reduceCtorEq]) | (refine AX.mapUpdate rfl rfl (by first | exact tM65 | exact tM66) (by first | exact kd9) rfl rfl rfl (by assumption) rfl (by simp only [go_sem, reduceCtorEq]) ?_; simp only [go_sem, reduceCtorEq]) | (refine AX.makeMap rfl (by first | exact tM65 | exact tM66) rfl ?_; simp only [go_sem, reduceCtorEq]) | (refine AX.lenMap rfl (by first | exact tM65 | exact tM66) rfl rfl rfl ?_; simp only [go_sem, reduceCtorEq]) | (refine AX.range rfl (by first | exact tM65 | exact tM66) rfl rfl rfl ?_; simp only [go_sem, reduceCtorEq]) | (refine AX.appendStr rfl (by first | exact tL22 | exact tL23 | exact tL25 | exact tL34 | exact tL36 | exact tL50 | exact tL100) (by simp only [go_sem]) (by simp only [go_sem]) (by simp only [go_sem]) rfl rfl rfl rfl (by simp only [go_sem, reduceCtorEq]; first | omega | (simp; omega)) ?_; simp only [go_sem, reduceCtorEq]) | (refine AX.shr rfl rfl rfl rfl (by first | decide | omega) ?_; simp only [go_sem, reduceCtorEq]) | (refine AX.shl rfl rfl rfl rfl (by first | decide | omega) ?_; simp only [go_sem, reduceCtorEq]) | (refine AX.bits rfl rfl rfl (by assumption) rfl ?_; simp only [go_sem, reduceCtorEq]) | (refine AX.nilSl rfl (by first | exact tL22 | exact tL23 | exact tL25 | exact tL34 | exact tL36 | exact tL50 | exact tL100) (by first | exact .inl rfl | exact .inr rfl) rfl rfl rfl ?_; simp only [go_sem, reduceCtorEq]))
    | ((show indepK _ _ _ _ = true ∧ _); refine And.intro (by kernel_rfl) ?_)
    | ((show _ ∧ _); refine And.intro (by first | omega | assumption | (simp only [go_sem]; omega) | (simp; omega) | (simp; done)) ?_)
    | (refine hK _ ?_; clear hK K)
    | (clear hK K; refine hK _ ?_; clear hK K)
    | (clear hK K; clear hK K; refine hK _ ?_; clear hK K)
    | (clear hK K; clear hK K; clear hK K; refine hK _ ?_; clear hK K)
    | fail)
  refine AX.gcall [3] rfl rfl (hc) (by simp only [go_sem, reduceCtorEq, rnEs_dE]) (by simp only [go_sem, reduceCtorEq, rnEs_dE]) rfl rfl (by simp only [go_sem, Obj.owns]) rfl (by simp only [go_sem, Obj.owns]) rfl rfl ?_
  simp only [go_sem, reduceCtorEq, rnEs_dE]
  repeat' (first
    | ((show W _ _ _ _); first | (refine W.seq fun K hK => ?_) | refine W.block ?_ | (refine W.reg rfl ?_; simp only [go_sem, reduceCtorEq]) | (refine W.regD Try_mo rfl rfl ?_; simp only [go_sem, reduceCtorEq]) | (refine W.skip ?_; simp only [go_sem]) | (refine W.exit ?_; simp only [go_sem]) | (refine W.ret (Post.ret ?_); simp only [go_sem, reduceCtorEq]) | refine W.condT rfl ?_ | refine W.condF rfl ?_ | refine W.cond rfl (fun h => ?_) (fun h => ?_))
    | ((show AX _ _ _ _ _); first | (refine AX.pcall rfl rfl (by simp only [go_sem, unim_im]; rfl) (by solve_by_elim) rfl rfl ?_; simp only [go_sem, reduceCtorEq]) | (refine AX.pcallF rfl rfl (by simp only [go_sem, unim_im]; rfl) (by simp only [go_sem, unim_im]; rfl) (by solve_by_elim) rfl rfl ?_; simp only [go_sem, reduceCtorEq]) | (refine AX.lookup rfl (by first | exact tM65 | exact tM66) (by first | exact tG2 | exact tG3 | exact tG4 | exact tG5 | exact tG7 | exact tG9 | exact tG12 | exact tG13 | exact tG18 | exact tG19 | exact tG20 | exact tG21 | exact tG22 | exact tG23 | exact tG25 | exact tG26 | exact tG27 | exact tG34 | exact tG36 | exact tG37 | exact tG38 | exact tG46 | exact tG49 | exact tG50 | exact tG51 | exact tG58 | exact tG59 | exact tG65 | exact tG66 | exact tG69 | exact tG70 | exact tG72 | exact tG74 | exact tG75 | exact tG79 | exact tG80 | exact tG87 | exact tG90 | exact tG95 | exact tG96 | exact tG100 | exact tG103 | exact tG111 | exact tG117 | exact tG121 | exact tG128 | exact tG134 | exact tG142 | exact tG145 | exact tG148) (by first | exact kd9) rfl rfl rfl (by assumption) rfl ?_; simp only [go_sem, reduceCtorEq]) | (refine AX.mapUpdate rfl rfl (by first | exact tM65 | exact tM66) (by first | exact kd9) rfl rfl rfl (by assumption) rfl (by simp only [go_sem, reduceCtorEq]) ?_; simp only [go_sem, reduceCtorEq]) | (refine AX.makeMap rfl (by first | exact tM65 | exact tM66) rfl ?_; simp only [go_sem, reduceCtorEq]) | (refine AX.lenMap rfl (by first | exact tM65 | exact tM66) rfl rfl rfl ?_; simp only [go_sem, reduceCtorEq]) | (refine AX.range rfl (by first | exact tM65 | exact tM66) rfl rfl rfl ?_; simp only [go_sem, reduceCtorEq]) | (refine AX.appendStr rfl (by first | exact tL22 | exact tL23 | exact tL25 | exact tL34 | exact tL36 | exact tL50 | exact tL100) (by simp only [go_sem]) (by simp only [go_sem]) (by simp only [go_sem]) rfl rfl rfl rfl (by simp only [go_sem, reduceCtorEq]; first | omega | (simp; omega)) ?_; simp only [go_sem, reduceCtorEq]) | (refine AX.shr rfl rfl rfl rfl (by first | decide | omega) ?_; simp only [go_sem, reduceCtorEq]) | (refine AX.shl rfl rfl rfl rfl (by first | decide | omega) ?_; simp only [go_sem, reduceCtorEq]) | (refine AX.bits rfl rfl rfl (by assumption) rfl ?_; simp only [go_sem, reduceCtorEq]) | (refine AX.nilSl rfl (by first | exact tL22 | exact tL23 | exact tL25 | exact tL34 | exact tL36 | exact tL50 | exact tL100) (by first | exact .inl rfl | exact .inr rfl) rfl rfl rfl ?_; simp only [go_sem, reduceCtorEq]))
    | ((show indepK _ _ _ _ = true ∧ _); refine And.intro (by kernel_rfl) ?_)
    | ((show _ ∧ _); refine And.intro (by first | omega | assumption | (simp only [go_sem]; omega) | (simp; omega) | (simp; done)) ?_)
    | (refine hK _ ?_; clear hK K)
    | (clear hK K; refine hK _ ?_; clear hK K)
    | (clear hK K; clear hK K; refine hK _ ?_; clear hK K)
    | (clear hK K; clear hK K; clear hK K; refine hK _ ?_; clear hK K)
    | fail)
  refine AX.gcall [3] rfl rfl (hc2) (by simp only [go_sem, reduceCtorEq, rnEs_dE]) (by simp only [go_sem, reduceCtorEq, rnEs_dE]) rfl rfl (by simp only [go_sem, Obj.owns]) rfl (by simp only [go_sem, Obj.owns]) rfl rfl ?_
  simp only [go_sem, reduceCtorEq, rnEs_dE]
  repeat' (first
    | ((show W _ _ _ _); first | refine W.stop (id := 4) ?_ | (refine W.seq fun K hK => ?_) | refine W.block ?_ | (refine W.reg rfl ?_; simp only [go_sem, reduceCtorEq]) | (refine W.regD Try_mo rfl rfl ?_; simp only [go_sem, reduceCtorEq]) | (refine W.skip ?_; simp only [go_sem]) | (refine W.exit ?_; simp only [go_sem]) | (refine W.ret (Post.ret ?_); simp only [go_sem, reduceCtorEq]) | refine W.condT rfl ?_ | refine W.condF rfl ?_ | refine W.cond rfl (fun h => ?_) (fun h => ?_))
    | ((show AX _ _ _ _ _); first | (refine AX.pcall rfl rfl (by simp only [go_sem, unim_im]; rfl) (by solve_by_elim) rfl rfl ?_; simp only [go_sem, reduceCtorEq]) | (refine AX.pcallF rfl rfl (by simp only [go_sem, unim_im]; rfl) (by simp only [go_sem, unim_im]; rfl) (by solve_by_elim) rfl rfl ?_; simp only [go_sem, reduceCtorEq]) | (refine AX.lookup rfl (by first | exact tM65 | exact tM66) (by first | exact tG2 | exact tG3 | exact tG4 | exact tG5 | exact tG7 | exact tG9 | exact tG12 | exact tG13 | exact tG18 | exact tG19 | exact tG20 | exact tG21 | exact tG22 | exact tG23 | exact tG25 | exact tG26 | exact tG27 | exact tG34 | exact tG36 | exact tG37 | exact tG38 | exact tG46 | exact tG49 | exact tG50 | exact tG51 | exact tG58 | exact tG59 | exact tG65 | exact tG66 | exact tG69 | exact tG70 | exact tG72 | exact tG74 | exact tG75 | exact tG79 | exact tG80 | exact tG87 | exact tG90 | exact tG95 | exact tG96 | exact tG100 | exact tG103 | exact tG111 | exact tG117 | exact tG121 | exact tG128 | exact tG134 | exact tG142 | exact tG145 | exact tG148) (by first | exact kd9) rfl rfl rfl (by assumption) rfl ?_; simp only [go_sem, reduceCtorEq]) | (refine AX.mapUpdate rfl rfl (by first | exact tM65 | exact tM66) (by first | exact kd9) rfl rfl rfl (by assumption) rfl (by simp only [go_sem, reduceCtorEq]) ?_; simp only [go_sem, reduceCtorEq]) | (refine AX.makeMap rfl (by first | exact tM65 | exact tM66) rfl ?_; simp only [go_sem, reduceCtorEq]) | (refine AX.lenMap rfl (by first | exact tM65 | exact tM66) rfl rfl rfl ?_; simp only [go_sem, reduceCtorEq]) | (refine AX.range rfl (by first | exact tM65 | exact tM66) rfl rfl rfl ?_; simp only [go_sem, reduceCtorEq]) | (refine AX.appendStr rfl (by first | exact tL22 | exact tL23 | exact tL25 | exact tL34 | exact tL36 | exact tL50 | exact tL100) (by simp only [go_sem]) (by simp only [go_sem]) (by simp only [go_sem]) rfl rfl rfl rfl (by simp only [go_sem, reduceCtorEq]; first | omega | (simp; omega)) ?_; simp only [go_sem, reduceCtorEq]) | (refine AX.shr rfl rfl rfl rfl (by first | decide | omega) ?_; simp only [go_sem, reduceCtorEq]) | (refine AX.shl rfl rfl rfl rfl (by first | decide | omega) ?_; simp only [go_sem, reduceCtorEq]) | (refine AX.bits rfl rfl rfl (by assumption) rfl ?_; simp only [go_sem, reduceCtorEq]) | (refine AX.nilSl rfl (by first | exact tL22 | exact tL23 | exact tL25 | exact tL34 | exact tL36 | exact tL50 | exact tL100) (by first | exact .inl rfl | exact .inr rfl) rfl rfl rfl ?_; simp only [go_sem, reduceCtorEq]))
    | ((show indepK _ _ _ _ = true ∧ _); refine And.intro (by kernel_rfl) ?_)
    | ((show _ ∧ _); refine And.intro (by first | omega | assumption | (simp only [go_sem]; omega) | (simp; omega) | (simp; done)) ?_)
    | (refine hK _ ?_; clear hK K)
    | (clear hK K; refine hK _ ?_; clear hK K)
    | (clear hK K; clear hK K; refine hK _ ?_; clear hK K)
    | (clear hK K; clear hK K; clear hK K; refine hK _ ?_; clear hK K)
    | fail)
  refine Stop.out ?_
  trace_state
  refine W.fits (s' := { t := [(5, .c (.mp 3))], h := [(3, .fro (.mp 9 (dA ds2)))], nx := 11, ex := [], nt := 15 }) (Fits.freezeM 3 rfl (dE_close ds2) ?_) ?_
  · simp only [go_sem]
    refine Fits.fit [(3, 3)] [5] 11 rfl rfl ?_
    simp only [go_sem]
    exact Fits.rfl
  repeat' (first
    | ((show W _ _ _ _); first | (refine W.seq fun K hK => ?_) | refine W.block ?_ | (refine W.reg rfl ?_; simp only [go_sem, reduceCtorEq]) | (refine W.regD Try_mo rfl rfl ?_; simp only [go_sem, reduceCtorEq]) | (refine W.skip ?_; simp only [go_sem]) | (refine W.exit ?_; simp only [go_sem]) | (refine W.ret (Post.ret ?_); simp only [go_sem, reduceCtorEq]) | refine W.condT rfl ?_ | refine W.condF rfl ?_ | refine W.cond rfl (fun h => ?_) (fun h => ?_))
    | ((show AX _ _ _ _ _); first | (refine AX.pcall rfl rfl (by simp only [go_sem, unim_im]; rfl) (by solve_by_elim) rfl rfl ?_; simp only [go_sem, reduceCtorEq]) | (refine AX.pcallF rfl rfl (by simp only [go_sem, unim_im]; rfl) (by simp only [go_sem, unim_im]; rfl) (by solve_by_elim) rfl rfl ?_; simp only [go_sem, reduceCtorEq]) | (refine AX.lookup rfl (by first | exact tM65 | exact tM66) (by first | exact tG2 | exact tG3 | exact tG4 | exact tG5 | exact tG7 | exact tG9 | exact tG12 | exact tG13 | exact tG18 | exact tG19 | exact tG20 | exact tG21 | exact tG22 | exact tG23 | exact tG25 | exact tG26 | exact tG27 | exact tG34 | exact tG36 | exact tG37 | exact tG38 | exact tG46 | exact tG49 | exact tG50 | exact tG51 | exact tG58 | exact tG59 | exact tG65 | exact tG66 | exact tG69 | exact tG70 | exact tG72 | exact tG74 | exact tG75 | exact tG79 | exact tG80 | exact tG87 | exact tG90 | exact tG95 | exact tG96 | exact tG100 | exact tG103 | exact tG111 | exact tG117 | exact tG121 | exact tG128 | exact tG134 | exact tG142 | exact tG145 | exact tG148) (by first | exact kd9) rfl rfl rfl (by assumption) rfl ?_; simp only [go_sem, reduceCtorEq]) | (refine AX.mapUpdate rfl rfl (by first | exact tM65 | exact tM66) (by first | exact kd9) rfl rfl rfl (by assumption) rfl (by simp only [go_sem, reduceCtorEq]) ?_; simp only [go_sem, reduceCtorEq]) | (refine AX.makeMap rfl (by first | exact tM65 | exact tM66) rfl ?_; simp only [go_sem, reduceCtorEq]) | (refine AX.lenMap rfl (by first | exact tM65 | exact tM66) rfl rfl rfl ?_; simp only [go_sem, reduceCtorEq]) | (refine AX.range rfl (by first | exact tM65 | exact tM66) rfl rfl rfl ?_; simp only [go_sem, reduceCtorEq]) | (refine AX.appendStr rfl (by first | exact tL22 | exact tL23 | exact tL25 | exact tL34 | exact tL36 | exact tL50 | exact tL100) (by simp only [go_sem]) (by simp only [go_sem]) (by simp only [go_sem]) rfl rfl rfl rfl (by simp only [go_sem, reduceCtorEq]; first | omega | (simp; omega)) ?_; simp only [go_sem, reduceCtorEq]) | (refine AX.shr rfl rfl rfl rfl (by first | decide | omega) ?_; simp only [go_sem, reduceCtorEq]) | (refine AX.shl rfl rfl rfl rfl (by first | decide | omega) ?_; simp only [go_sem, reduceCtorEq]) | (refine AX.bits rfl rfl rfl (by assumption) rfl ?_; simp only [go_sem, reduceCtorEq]) | (refine AX.nilSl rfl (by first | exact tL22 | exact tL23 | exact tL25 | exact tL34 | exact tL36 | exact tL50 | exact tL100) (by first | exact .inl rfl | exact .inr rfl) rfl rfl rfl ?_; simp only [go_sem, reduceCtorEq]))
    | ((show indepK _ _ _ _ = true ∧ _); refine And.intro (by kernel_rfl) ?_)
    | ((show _ ∧ _); refine And.intro (by first | omega | assumption | (simp only [go_sem]; omega) | (simp; omega) | (simp; done)) ?_)
    | (refine hK _ ?_; clear hK K)
    | (clear hK K; refine hK _ ?_; clear hK K)
    | (clear hK K; clear hK K; refine hK _ ?_; clear hK K)
    | (clear hK K; clear hK K; clear hK K; refine hK _ ?_; clear hK K)
    | fail)
end Go.Proofs.Ytegcmciglakicaa
