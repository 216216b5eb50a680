import Derived.Test.YtegcmciglakicaaUc
import Derived.Test.YtegcmciglakicaaUd
namespace Go.Proofs.Ytegcmciglakicaa
open Go.RowKit Go.Exe
set_option linter.unusedVariables false
set_option linter.unusedSimpArgs false
set_option maxHeartbeats 1000000
set_option maxRecDepth 100000
attribute [local irreducible] W AX Run RunD AStep AOp AOpX AStB AStH AStG Fits PCall GCall PostG Post Stop

theorem imR_sn2 (xs : List (List AV)) (a b : AV) : imR xs ++ [[.im a, .im b]] = imR (xs ++ [[a, b]]) := by simp [imR, imL]
abbrev Dl := List Nm × Int
def pkey (p : List Nm) : Value := .string ⟨(pathB p).toArray⟩
def dE (ds : List Dl) : List (Value × Bool × List Cell) := ds.map fun d => (pkey d.1, false, [.obox 38 (dlA d)])
theorem pkey_inj {p q : List Nm} : pkey p = pkey q ↔ pathB p = pathB q := by
  unfold pkey
  constructor
  · intro h
    injection h with h
    injection h with h
    simpa using congrArg Array.toList h
  · intro h; rw [h]
theorem rnEs_dE (r : Ren) (ds : List Dl) : rnEs r (dE ds) = dE ds := by
  unfold dE
  induction ds with
  | nil => rfl
  | cons d l ih => simp only [List.map_cons, rnEs, rnCs, rnC]; rw [ih]
def addD (p : List Nm) (by_ : Int) : List Dl → List Dl
  | [] => [(p, by_)]
  | d :: r => if pathB d.1 = pathB p then (d.1, IntKind.i64.wrap (d.2 + by_)) :: r else d :: addD p by_ r
theorem mget_dE_none {p : List Nm} : ∀ {ds : List Dl}, (∀ d ∈ ds, pathB d.1 ≠ pathB p) → mget (pkey p) (dE ds) = none := by
  intro ds h
  refine mget_none fun e he => ?_
  obtain ⟨d, hd, rfl⟩ := List.mem_map.1 he
  exact fun e => h d hd (pkey_inj.1 e)
theorem dE_keys (ds : List Dl) : (dE ds).map (·.1) = ds.map fun d => pkey d.1 := by simp [dE, Function.comp_def]
theorem mget_setE {key : Value} {es : List (Value × Bool × List Cell)} {i : Nat} {cs : List Cell} {c : Cell} (hn : (es.map (·.1)).Nodup) (h : es[i]? = some (key, false, cs)) : mget key (setE es i c) = some (false, [c]) := by
  rw [setE_set c h]
  have hl := (List.getElem?_eq_some_iff.1 h).1
  refine mget_at (j := i) (e := (key, false, [c])) ?_ ?_ rfl
  · have := setE_keys es i c
    rw [setE_set c h] at this
    rw [this]; exact hn
  · rw [List.getElem?_set_self hl]
theorem setE_setE : ∀ (es : List (Value × Bool × List Cell)) (i : Nat) (c d : Cell), setE (setE es i c) i d = setE es i d
  | [], _, _, _ => rfl
  | e :: r, 0, c, d => rfl
  | e :: r, i + 1, c, d => by simp [setE, setE_setE r i c d]
theorem addD_none {p : List Nm} {by_ : Int} : ∀ {ds : List Dl}, (∀ d ∈ ds, pathB d.1 ≠ pathB p) → addD p by_ ds = ds ++ [(p, by_)]
  | [], _ => rfl
  | d :: r, h => by
    have := addD_none (by_ := by_) (ds := r) fun x hx => h x (List.mem_cons_of_mem _ hx)
    simp [addD, h d (by simp), this]
theorem addD_at {p : List Nm} {by_ : Int} : ∀ {ds : List Dl} {i : Nat} {d : Dl}, (ds.map fun d => pkey d.1).Nodup → ds[i]? = some d → pathB d.1 = pathB p → dE (addD p by_ ds) = setE (dE ds) i (.obox 38 (dlA (d.1, IntKind.i64.wrap (d.2 + by_))))
  | x :: r, 0, d, _, h, hp => by simp at h; subst h; simp [addD, hp, dE, setE]
  | x :: r, i + 1, d, hn, h, hp => by
    simp only [List.map_cons, List.nodup_cons] at hn
    have hne : pathB x.1 ≠ pathB p := by
      intro e
      refine hn.1 (List.mem_map.2 ⟨d, List.mem_of_getElem? (by simpa using h), ?_⟩)
      rw [pkey_inj, hp, e]
    have := addD_at (by_ := by_) (ds := r) (i := i) hn.2 (by simpa using h) hp
    simp only [addD, if_neg hne]
    simp only [dE, List.map_cons, setE] at this ⊢
    rw [this]
theorem addD_keys {p : List Nm} {by_ : Int} : ∀ {ds : List Dl}, (ds.map fun d => pkey d.1).Nodup → ((addD p by_ ds).map fun d => pkey d.1).Nodup := by
  intro ds hn
  by_cases h : ∃ d ∈ ds, pathB d.1 = pathB p
  · have : ∀ {ds : List Dl}, (∃ d ∈ ds, pathB d.1 = pathB p) → (addD p by_ ds).map (fun d => pkey d.1) = ds.map fun d => pkey d.1 := by
      intro ds
      induction ds with
      | nil => rintro ⟨d, hd, _⟩; simp at hd
      | cons x r ih =>
        rintro ⟨d, hd, he⟩
        simp only [addD]
        split
        · rfl
        · rename_i hx
          have : ∃ d ∈ r, pathB d.1 = pathB p := by
            rcases List.mem_cons.1 hd with rfl | hd
            · exact absurd he hx
            · exact ⟨d, hd, he⟩
          simp [ih this]
    rw [this h]; exact hn
  · have h' : ∀ d ∈ ds, pathB d.1 ≠ pathB p := fun d hd e => h ⟨d, hd, e⟩
    rw [addD_none h', List.map_append]
    refine List.nodup_append.2 ⟨hn, by simp, fun x hx y hy => ?_⟩
    simp at hy; subst hy
    obtain ⟨d, hd, rfl⟩ := List.mem_map.1 hx
    exact fun e => h' d hd (pkey_inj.1 e)
mutual
def Shp.addS (by_ : Int) : Shp → List Nm → List Dl → List Dl
  | .mk s o ks, above, ds => addsS by_ ks (above ++ [(s, o)]) (addD (above ++ [(s, o)]) by_ ds)
def addsS (by_ : Int) : List Shp → List Nm → List Dl → List Dl
  | [], _, ds => ds
  | x :: r, path, ds => addsS by_ r path (x.addS by_ path ds)
end
mutual
def Shp.tw : Shp → Nat
  | .mk s o ks => 32 + s.size + o.size + tws ks
def tws : List Shp → Nat
  | [] => 0
  | x :: r => x.tw + tws r
end
theorem tws_mem : ∀ {l : List Shp} {x : Shp}, x ∈ l → x.tw ≤ tws l
  | y :: r, x, h => by
    rcases List.mem_cons.1 h with rfl | h
    · simp [tws]
    · have := tws_mem h; simp only [tws]; omega
theorem tws_len : ∀ l : List Shp, l.length ≤ tws l
  | [] => by simp [tws]
  | .mk s o ks :: r => by have := tws_len r; simp only [tws, Shp.tw, List.length_cons]; omega
theorem pathW_len : ∀ l : List Nm, 32 * l.length ≤ pathW l
  | [] => by simp
  | n :: r => by have := pathW_len r; simp only [pathW, List.length_cons]; omega
mutual
theorem addS_keys (by_ : Int) : ∀ (x : Shp) (above : List Nm) (ds : List Dl), (ds.map fun d => pkey d.1).Nodup → ((x.addS by_ above ds).map fun d => pkey d.1).Nodup
  | .mk s o ks, above, ds, h => by simp only [Shp.addS]; exact addsS_keys by_ ks _ _ (addD_keys h)
theorem addsS_keys (by_ : Int) : ∀ (l : List Shp) (path : List Nm) (ds : List Dl), (ds.map fun d => pkey d.1).Nodup → ((addsS by_ l path ds).map fun d => pkey d.1).Nodup
  | [], _, _, h => h
  | x :: r, path, ds, h => by simp only [addsS]; exact addsS_keys by_ r _ _ (addS_keys by_ x _ _ h)
end
theorem addsS_app (by_ : Int) : ∀ (l m : List Shp) (path : List Nm) (ds : List Dl), addsS by_ (l ++ m) path ds = addsS by_ m path (addsS by_ l path ds)
  | [], _, _, _ => rfl
  | x :: r, m, path, ds => by simp [addsS, addsS_app by_ r m]
def AddC (by_ : Int) (x : Shp) : Prop := ∀ (above : List Nm) (ds : List Dl), (ds.map fun d => pkey d.1).Nodup → pathW above + x.tw ≤ 140737488355328 →
  GCall Try.prog 38 1 (St.g [.c (.mp 0), shT x, .c (.im (.sl 59 (above.map nmA))), ft (.int .i64 by_)] [(0, .map 9 (dE ds))] 1) (St.r (.t []) [(0, .map 9 (dE (x.addS by_ above ds)))] 1)
theorem add_c (by_ : Int) (hby : IntKind.i64.wrap (0 + by_) = by_) (s o : ByteArray) (ks : List Shp) (ih : ∀ x ∈ ks, AddC by_ x) : AddC by_ (.mk s o ks) := by
  intro above ds hn hW
  simp only [Shp.tw] at hW
  have hpl := pathW_len above
  have hpw : pathW (above ++ [(s, o)]) ≤ 140737488355328 := by rw [pathW_app]; simp only [pathW]; omega
  have ck := pathKey_c (above ++ [(s, o)]) hpw
  simp only [List.map_append, List.map_cons, List.map_nil, nmA] at ck
  have hkl := pathB_len (above ++ [(s, o)]) (by omega)
  have hko : KeyOk Try.prog 9 (.string ⟨(pathB (above ++ [(s, o)])).toArray⟩) := ⟨_, _root_.Go.WideMaps.keyOf_string_mk tU9 (by rw [maxLen_is]; show (pathB _).toArray.size ≤ _; simp only [List.size_toArray]; omega)⟩
  simp only [shT_mk]
  refine GCall.introG (nt := 55) (rs := []) Try.func38 rfl ⟨by kernel_rfl, by kernel_rfl, by kernel_rfl⟩ (by simp) ?_
  rintro ⟨P, w0, ok0, may, np, pblk⟩ rfl rfl
  simp only [go_sem]
  repeat' (first
    | ((show W _ _ _ _); first | (refine W.seq fun K hK => ?_) | refine W.block ?_ | (refine W.reg rfl ?_; simp only [go_sem, reduceCtorEq]) | (refine W.regD Try_mo rfl rfl ?_; simp only [go_sem, reduceCtorEq]) | (refine W.skip ?_; simp only [go_sem]) | (refine W.exit ?_; simp only [go_sem]) | (refine W.ret (Post.ret ?_); simp only [go_sem, reduceCtorEq]) | refine W.condT rfl ?_ | refine W.condF rfl ?_ | refine W.cond rfl (fun h => ?_) (fun h => ?_))
    | ((show AX _ _ _ _ _); first | (refine AX.pcall rfl rfl (by simp only [go_sem, unim_im]; rfl) (by solve_by_elim) rfl rfl ?_; simp only [go_sem, reduceCtorEq]) | (refine AX.pcallF rfl rfl (by simp only [go_sem, unim_im]; rfl) (by simp only [go_sem, unim_im]; rfl) (by solve_by_elim) rfl rfl ?_; simp only [go_sem, reduceCtorEq]) | (refine AX.lookup rfl (by first | exact tM65 | exact tM66) (by first | exact tG2 | exact tG3 | exact tG4 | exact tG5 | exact tG7 | exact tG9 | exact tG12 | exact tG13 | exact tG18 | exact tG19 | exact tG20 | exact tG21 | exact tG22 | exact tG23 | exact tG25 | exact tG26 | exact tG27 | exact tG34 | exact tG36 | exact tG37 | exact tG38 | exact tG46 | exact tG49 | exact tG50 | exact tG51 | exact tG58 | exact tG59 | exact tG65 | exact tG66 | exact tG69 | exact tG70 | exact tG72 | exact tG74 | exact tG75 | exact tG79 | exact tG80 | exact tG87 | exact tG90 | exact tG95 | exact tG96 | exact tG100 | exact tG103 | exact tG111 | exact tG117 | exact tG121 | exact tG128 | exact tG134 | exact tG142 | exact tG145 | exact tG148) (by first | exact kd9) rfl rfl rfl (by assumption) rfl ?_; simp only [go_sem, reduceCtorEq]) | (refine AX.mapUpdate rfl rfl (by first | exact tM65 | exact tM66) (by first | exact kd9) rfl rfl rfl (by assumption) rfl (by simp only [go_sem, reduceCtorEq]) ?_; simp only [go_sem, reduceCtorEq]) | (refine AX.makeMap rfl (by first | exact tM65 | exact tM66) rfl ?_; simp only [go_sem, reduceCtorEq]) | (refine AX.lenMap rfl (by first | exact tM65 | exact tM66) rfl rfl rfl ?_; simp only [go_sem, reduceCtorEq]) | (refine AX.range rfl (by first | exact tM65 | exact tM66) rfl rfl rfl ?_; simp only [go_sem, reduceCtorEq]) | (refine AX.appendStr rfl (by first | exact tL22 | exact tL23 | exact tL25 | exact tL34 | exact tL36 | exact tL50 | exact tL100) (by simp only [go_sem]) (by simp only [go_sem]) (by simp only [go_sem]) rfl rfl rfl rfl (by simp only [go_sem, reduceCtorEq]; first | omega | (simp; omega)) ?_; simp only [go_sem, reduceCtorEq]) | (refine AX.shr rfl rfl rfl rfl (by first | decide | omega) ?_; simp only [go_sem, reduceCtorEq]) | (refine AX.shl rfl rfl rfl rfl (by first | decide | omega) ?_; simp only [go_sem, reduceCtorEq]) | (refine AX.bits rfl rfl rfl (by assumption) rfl ?_; simp only [go_sem, reduceCtorEq]) | (refine AX.nilSl rfl (by first | exact tL22 | exact tL23 | exact tL25 | exact tL34 | exact tL36 | exact tL50 | exact tL100) (by first | exact .inl rfl | exact .inr rfl) rfl rfl rfl ?_; simp only [go_sem, reduceCtorEq]))
    | ((show indepK _ _ _ _ = true ∧ _); refine And.intro (by kernel_rfl) ?_)
    | ((show _ ∧ _); refine And.intro (by first | omega | assumption | (simp only [go_sem]; omega) | (simp; omega) | (simp; done)) ?_)
    | (refine hK _ ?_; clear hK K)
    | (clear hK K; refine hK _ ?_; clear hK K)
    | (clear hK K; clear hK K; refine hK _ ?_; clear hK K)
    | (clear hK K; clear hK K; clear hK K; refine hK _ ?_; clear hK K)
    | fail)
  refine AX.gcall [] rfl rfl (clone_c above) (by simp only [go_sem, reduceCtorEq, imR_sn2]) (by simp only [go_sem, reduceCtorEq, imR_sn2]) rfl rfl (by simp only [go_sem, Obj.owns]) rfl (by simp only [go_sem, Obj.owns]) rfl rfl ?_
  simp only [go_sem, reduceCtorEq, imR_sn2]
  repeat' (first
    | ((show W _ _ _ _); first | refine W.stop (id := 3) ?_ | (refine W.seq fun K hK => ?_) | refine W.block ?_ | (refine W.reg rfl ?_; simp only [go_sem, reduceCtorEq, imR_sn2]) | (refine W.regD Try_mo rfl rfl ?_; simp only [go_sem, reduceCtorEq, imR_sn2]) | (refine W.skip ?_; simp only [go_sem]) | (refine W.exit ?_; simp only [go_sem]) | (refine W.ret (Post.ret ?_); simp only [go_sem, reduceCtorEq, imR_sn2]) | refine W.condT rfl ?_ | refine W.condF rfl ?_ | refine W.cond rfl (fun h => ?_) (fun h => ?_))
    | ((show AX _ _ _ _ _); first | (refine AX.pcall rfl rfl (by simp only [go_sem, unim_im]; rfl) (by solve_by_elim) rfl rfl ?_; simp only [go_sem, reduceCtorEq, imR_sn2]) | (refine AX.pcallF rfl rfl (by simp only [go_sem, unim_im]; rfl) (by simp only [go_sem, unim_im]; rfl) (by solve_by_elim) rfl rfl ?_; simp only [go_sem, reduceCtorEq, imR_sn2]) | (refine AX.lookup rfl (by first | exact tM65 | exact tM66) (by first | exact tG2 | exact tG3 | exact tG4 | exact tG5 | exact tG7 | exact tG9 | exact tG12 | exact tG13 | exact tG18 | exact tG19 | exact tG20 | exact tG21 | exact tG22 | exact tG23 | exact tG25 | exact tG26 | exact tG27 | exact tG34 | exact tG36 | exact tG37 | exact tG38 | exact tG46 | exact tG49 | exact tG50 | exact tG51 | exact tG58 | exact tG59 | exact tG65 | exact tG66 | exact tG69 | exact tG70 | exact tG72 | exact tG74 | exact tG75 | exact tG79 | exact tG80 | exact tG87 | exact tG90 | exact tG95 | exact tG96 | exact tG100 | exact tG103 | exact tG111 | exact tG117 | exact tG121 | exact tG128 | exact tG134 | exact tG142 | exact tG145 | exact tG148) (by first | exact kd9) rfl rfl rfl (by assumption) rfl ?_; simp only [go_sem, reduceCtorEq, imR_sn2]) | (refine AX.mapUpdate rfl rfl (by first | exact tM65 | exact tM66) (by first | exact kd9) rfl rfl rfl (by assumption) rfl (by simp only [go_sem, reduceCtorEq, imR_sn2]) ?_; simp only [go_sem, reduceCtorEq, imR_sn2]) | (refine AX.makeMap rfl (by first | exact tM65 | exact tM66) rfl ?_; simp only [go_sem, reduceCtorEq, imR_sn2]) | (refine AX.lenMap rfl (by first | exact tM65 | exact tM66) rfl rfl rfl ?_; simp only [go_sem, reduceCtorEq, imR_sn2]) | (refine AX.range rfl (by first | exact tM65 | exact tM66) rfl rfl rfl ?_; simp only [go_sem, reduceCtorEq, imR_sn2]) | (refine AX.appendStr rfl (by first | exact tL22 | exact tL23 | exact tL25 | exact tL34 | exact tL36 | exact tL50 | exact tL100) (by simp only [go_sem]) (by simp only [go_sem]) (by simp only [go_sem]) rfl rfl rfl rfl (by simp only [go_sem, reduceCtorEq, imR_sn2]; first | omega | (simp; omega)) ?_; simp only [go_sem, reduceCtorEq, imR_sn2]) | (refine AX.shr rfl rfl rfl rfl (by first | decide | omega) ?_; simp only [go_sem, reduceCtorEq, imR_sn2]) | (refine AX.shl rfl rfl rfl rfl (by first | decide | omega) ?_; simp only [go_sem, reduceCtorEq, imR_sn2]) | (refine AX.bits rfl rfl rfl (by assumption) rfl ?_; simp only [go_sem, reduceCtorEq, imR_sn2]) | (refine AX.nilSl rfl (by first | exact tL22 | exact tL23 | exact tL25 | exact tL34 | exact tL36 | exact tL50 | exact tL100) (by first | exact .inl rfl | exact .inr rfl) rfl rfl rfl ?_; simp only [go_sem, reduceCtorEq, imR_sn2]))
    | ((show indepK _ _ _ _ = true ∧ _); refine And.intro (by kernel_rfl) ?_)
    | ((show _ ∧ _); refine And.intro (by first | omega | assumption | (simp only [go_sem]; omega) | (simp; omega) | (simp; done)) ?_)
    | (refine hK _ ?_; clear hK K)
    | (clear hK K; refine hK _ ?_; clear hK K)
    | (clear hK K; clear hK K; refine hK _ ?_; clear hK K)
    | (clear hK K; clear hK K; clear hK K; refine hK _ ?_; clear hK K)
    | fail)
  refine Stop.out ?_
  have hpath : above.map nmA ++ [[AV.flat (.string s), AV.flat (.string o)]] = (above ++ [(s, o)]).map nmA := by simp [nmA]
  refine W.fits (s' := { t := [(0, .c (.mp 0)), (3, ft (.int .i64 by_)), (5, .c (.ptr 1 0)), (8, .c (.im (.sl 59 ((above ++ [(s, o)]).map nmA)))), (9, ft (.string ⟨(pathB (above ++ [(s, o)])).toArray⟩))], h := [(0, .map 9 (dE ds)), (1, .box 27 [fl (.string s), fl (.string o), .im (.sl 27 (avs ks))])], nx := 2, ex := [], nt := 55 }) (Fits.freeze 10 rfl (unim_im _) ?_) ?_
  · simp only [go_sem]
    refine Fits.seeT 8 10 rfl (.inl rfl) rfl ?_
    refine Fits.fit [(0, 0), (1, 1)] [0, 3, 5, 8, 9] 2 rfl rfl ?_
    simp only [go_sem, hpath, rnEs_dE]
    exact Fits.rfl
  have hWx : ∀ x ∈ ks, pathW (above ++ [(s, o)]) + x.tw ≤ 140737488355328 := fun x hx => by
    have := tws_mem hx
    rw [pathW_app]; simp only [pathW]; omega
  have hS : (Shp.mk s o ks).addS by_ above ds = addsS by_ ks (above ++ [(s, o)]) (addD (above ++ [(s, o)]) by_ ds) := by simp only [Shp.addS]
  have hkn : ks.length ≤ 140737488355328 := by have := tws_len ks; omega
  clear hpath ck hW hpl
  generalize above ++ [(s, o)] = p at hpw hkl hko hWx hS ⊢
  have hpk : Value.string ⟨(pathB p).toArray⟩ = pkey p := rfl
  by_cases hex : ∃ d ∈ ds, pathB d.1 = pathB p
  · obtain ⟨d, hdm, hdp⟩ := hex
    obtain ⟨i, hdi⟩ := List.getElem?_of_mem hdm
    have hei : (dE ds)[i]? = some (pkey p, false, [.obox 38 (dlA d)]) := by
      simp only [dE, List.getElem?_map, hdi, Option.map_some]
      rw [pkey_inj.2 hdp]
    have hget : mget (Value.string ⟨(pathB p).toArray⟩) (setE (dE ds) i (.ptr 2 0)) = some (false, [.ptr 2 0]) := mget_setE (by rw [dE_keys]; exact hn) hei
    refine W.fits (s' := { t := [(0, .c (.mp 0)), (3, ft (.int .i64 by_)), (5, .c (.ptr 1 0)), (8, .c (.im (.sl 59 (p.map nmA)))), (9, ft (.string ⟨(pathB p).toArray⟩))], h := [(0, .map 9 (setE (dE ds) i (.ptr 2 0))), (1, .box 27 [fl (.string s), fl (.string o), .im (.sl 27 (avs ks))]), (2, .box 38 [.im (.sl 59 (d.1.map nmA)), fl (.int .i64 d.2)])], nx := 3, ex := [], nt := 55 })
      (Fits.unf 0 i 0 2 (c := .obox 38 (dlA d)) rfl rfl (by simp only [Obj.slot, hei]) rfl rfl ?_) ?_
    · simp only [go_sem]
      refine Fits.fit [(0, 0), (1, 1), (2, 2)] [0, 3, 5, 8, 9] 3 rfl rfl ?_
      simp only [go_sem, dlA, imL, rnEs_dE]
      exact Fits.rfl
    repeat' (first
      | ((show W _ _ _ _); first | refine W.stop (id := 6) ?_ | (refine W.seq fun K hK => ?_) | refine W.block ?_ | (refine W.reg rfl ?_; simp only [go_sem, reduceCtorEq, hget]) | (refine W.regD Try_mo rfl rfl ?_; simp only [go_sem, reduceCtorEq, hget]) | (refine W.skip ?_; simp only [go_sem]) | (refine W.exit ?_; simp only [go_sem]) | (refine W.ret (Post.ret ?_); simp only [go_sem, reduceCtorEq, hget]) | refine W.condT rfl ?_ | refine W.condF rfl ?_ | refine W.cond rfl (fun h => ?_) (fun h => ?_))
      | ((show AX _ _ _ _ _); first | (refine AX.pcall rfl rfl (by simp only [go_sem, unim_im]; rfl) (by solve_by_elim) rfl rfl ?_; simp only [go_sem, reduceCtorEq, hget]) | (refine AX.pcallF rfl rfl (by simp only [go_sem, unim_im]; rfl) (by simp only [go_sem, unim_im]; rfl) (by solve_by_elim) rfl rfl ?_; simp only [go_sem, reduceCtorEq, hget]) | (refine AX.lookup rfl (by first | exact tM65 | exact tM66) (by first | exact tG2 | exact tG3 | exact tG4 | exact tG5 | exact tG7 | exact tG9 | exact tG12 | exact tG13 | exact tG18 | exact tG19 | exact tG20 | exact tG21 | exact tG22 | exact tG23 | exact tG25 | exact tG26 | exact tG27 | exact tG34 | exact tG36 | exact tG37 | exact tG38 | exact tG46 | exact tG49 | exact tG50 | exact tG51 | exact tG58 | exact tG59 | exact tG65 | exact tG66 | exact tG69 | exact tG70 | exact tG72 | exact tG74 | exact tG75 | exact tG79 | exact tG80 | exact tG87 | exact tG90 | exact tG95 | exact tG96 | exact tG100 | exact tG103 | exact tG111 | exact tG117 | exact tG121 | exact tG128 | exact tG134 | exact tG142 | exact tG145 | exact tG148) (by first | exact kd9) rfl rfl rfl (by assumption) rfl ?_; simp only [go_sem, reduceCtorEq, hget]) | (refine AX.mapUpdate rfl rfl (by first | exact tM65 | exact tM66) (by first | exact kd9) rfl rfl rfl (by assumption) rfl (by simp only [go_sem, reduceCtorEq, hget]) ?_; simp only [go_sem, reduceCtorEq, hget]) | (refine AX.makeMap rfl (by first | exact tM65 | exact tM66) rfl ?_; simp only [go_sem, reduceCtorEq, hget]) | (refine AX.lenMap rfl (by first | exact tM65 | exact tM66) rfl rfl rfl ?_; simp only [go_sem, reduceCtorEq, hget]) | (refine AX.range rfl (by first | exact tM65 | exact tM66) rfl rfl rfl ?_; simp only [go_sem, reduceCtorEq, hget]) | (refine AX.appendStr rfl (by first | exact tL22 | exact tL23 | exact tL25 | exact tL34 | exact tL36 | exact tL50 | exact tL100) (by simp only [go_sem]) (by simp only [go_sem]) (by simp only [go_sem]) rfl rfl rfl rfl (by simp only [go_sem, reduceCtorEq, hget]; first | omega | (simp; omega)) ?_; simp only [go_sem, reduceCtorEq, hget]) | (refine AX.shr rfl rfl rfl rfl (by first | decide | omega) ?_; simp only [go_sem, reduceCtorEq, hget]) | (refine AX.shl rfl rfl rfl rfl (by first | decide | omega) ?_; simp only [go_sem, reduceCtorEq, hget]) | (refine AX.bits rfl rfl rfl (by assumption) rfl ?_; simp only [go_sem, reduceCtorEq, hget]) | (refine AX.nilSl rfl (by first | exact tL22 | exact tL23 | exact tL25 | exact tL34 | exact tL36 | exact tL50 | exact tL100) (by first | exact .inl rfl | exact .inr rfl) rfl rfl rfl ?_; simp only [go_sem, reduceCtorEq, hget]))
      | ((show indepK _ _ _ _ = true ∧ _); refine And.intro (by kernel_rfl) ?_)
      | ((show _ ∧ _); refine And.intro (by first | omega | assumption | (simp only [go_sem]; omega) | (simp; omega) | (simp; done)) ?_)
      | (refine hK _ ?_; clear hK K)
      | (clear hK K; refine hK _ ?_; clear hK K)
      | (clear hK K; clear hK K; refine hK _ ?_; clear hK K)
      | (clear hK K; clear hK K; clear hK K; refine hK _ ?_; clear hK K)
      | fail)
    refine Stop.out ?_
    refine W.fits (s' := { t := [(0, .c (.mp 0)), (3, ft (.int .i64 by_)), (5, .c (.ptr 1 0)), (8, .c (.im (.sl 59 (p.map nmA))))], h := [(0, .map 9 (dE (addD p by_ ds))), (1, .box 27 [fl (.string s), fl (.string o), .im (.sl 27 (avs ks))])], nx := 2, ex := [], nt := 55 }) ?_ ?_
    · refine Fits.fold 0 i 0 2 (.obox 38 (dlA (d.1, IntKind.i64.wrap (d.2 + by_)))) rfl rfl rfl (by simp only [Obj.slot, setE_set _ hei, List.getElem?_set_self (List.getElem?_eq_some_iff.1 hei).1]; rfl) (by decide) ?_
      simp only [go_sem, setE_setE, ← addD_at hn hdi hdp]
      refine Fits.fit [(0, 0), (1, 1)] [0, 3, 5, 8] 2 rfl rfl ?_
      simp only [go_sem, rnEs_dE]
      exact Fits.rfl
    repeat' (first
      | ((show W _ _ _ _); first | (refine W.seq fun K hK => ?_) | refine W.block ?_ | (refine W.reg rfl ?_; simp only [go_sem, reduceCtorEq, avs_len]) | (refine W.regD Try_mo rfl rfl ?_; simp only [go_sem, reduceCtorEq, avs_len]) | (refine W.skip ?_; simp only [go_sem]) | (refine W.exit ?_; simp only [go_sem]) | (refine W.ret (Post.ret ?_); simp only [go_sem, reduceCtorEq, avs_len]) | refine W.condT rfl ?_ | refine W.condF rfl ?_ | refine W.cond rfl (fun h => ?_) (fun h => ?_))
      | ((show AX _ _ _ _ _); first | (refine AX.pcall rfl rfl (by simp only [go_sem, unim_im]; rfl) (by solve_by_elim) rfl rfl ?_; simp only [go_sem, reduceCtorEq, avs_len]) | (refine AX.pcallF rfl rfl (by simp only [go_sem, unim_im]; rfl) (by simp only [go_sem, unim_im]; rfl) (by solve_by_elim) rfl rfl ?_; simp only [go_sem, reduceCtorEq, avs_len]) | (refine AX.lookup rfl (by first | exact tM65 | exact tM66) (by first | exact tG2 | exact tG3 | exact tG4 | exact tG5 | exact tG7 | exact tG9 | exact tG12 | exact tG13 | exact tG18 | exact tG19 | exact tG20 | exact tG21 | exact tG22 | exact tG23 | exact tG25 | exact tG26 | exact tG27 | exact tG34 | exact tG36 | exact tG37 | exact tG38 | exact tG46 | exact tG49 | exact tG50 | exact tG51 | exact tG58 | exact tG59 | exact tG65 | exact tG66 | exact tG69 | exact tG70 | exact tG72 | exact tG74 | exact tG75 | exact tG79 | exact tG80 | exact tG87 | exact tG90 | exact tG95 | exact tG96 | exact tG100 | exact tG103 | exact tG111 | exact tG117 | exact tG121 | exact tG128 | exact tG134 | exact tG142 | exact tG145 | exact tG148) (by first | exact kd9) rfl rfl rfl (by assumption) rfl ?_; simp only [go_sem, reduceCtorEq, avs_len]) | (refine AX.mapUpdate rfl rfl (by first | exact tM65 | exact tM66) (by first | exact kd9) rfl rfl rfl (by assumption) rfl (by simp only [go_sem, reduceCtorEq, avs_len]) ?_; simp only [go_sem, reduceCtorEq, avs_len]) | (refine AX.makeMap rfl (by first | exact tM65 | exact tM66) rfl ?_; simp only [go_sem, reduceCtorEq, avs_len]) | (refine AX.lenMap rfl (by first | exact tM65 | exact tM66) rfl rfl rfl ?_; simp only [go_sem, reduceCtorEq, avs_len]) | (refine AX.range rfl (by first | exact tM65 | exact tM66) rfl rfl rfl ?_; simp only [go_sem, reduceCtorEq, avs_len]) | (refine AX.appendStr rfl (by first | exact tL22 | exact tL23 | exact tL25 | exact tL34 | exact tL36 | exact tL50 | exact tL100) (by simp only [go_sem]) (by simp only [go_sem]) (by simp only [go_sem]) rfl rfl rfl rfl (by simp only [go_sem, reduceCtorEq, avs_len]; first | omega | (simp; omega)) ?_; simp only [go_sem, reduceCtorEq, avs_len]) | (refine AX.shr rfl rfl rfl rfl (by first | decide | omega) ?_; simp only [go_sem, reduceCtorEq, avs_len]) | (refine AX.shl rfl rfl rfl rfl (by first | decide | omega) ?_; simp only [go_sem, reduceCtorEq, avs_len]) | (refine AX.bits rfl rfl rfl (by assumption) rfl ?_; simp only [go_sem, reduceCtorEq, avs_len]) | (refine AX.nilSl rfl (by first | exact tL22 | exact tL23 | exact tL25 | exact tL34 | exact tL36 | exact tL50 | exact tL100) (by first | exact .inl rfl | exact .inr rfl) rfl rfl rfl ?_; simp only [go_sem, reduceCtorEq, avs_len]))
      | ((show indepK _ _ _ _ = true ∧ _); refine And.intro (by kernel_rfl) ?_)
      | ((show _ ∧ _); refine And.intro (by first | omega | assumption | (simp only [go_sem]; omega) | (simp; omega) | (simp; done)) ?_)
      | (refine hK _ ?_; clear hK K)
      | (clear hK K; refine hK _ ?_; clear hK K)
      | (clear hK K; clear hK K; refine hK _ ?_; clear hK K)
      | (clear hK K; clear hK K; clear hK K; refine hK _ ?_; clear hK K)
      | fail)
    refine W.loopF (T := fun j : Nat => { t := [(0, .c (.mp 0)), (3, ft (.int .i64 by_)), (8, .c (.im (.sl 59 (p.map nmA)))), (43, .c (.im (.sl 27 (avs ks)))), (44, ft (.int .i64 ks.length)), (45, ft (.int .i64 (j : Nat)))], h := [(0, .map 9 (dE (addsS by_ (ks.take j) p (addD p by_ ds))))], nx := 1, ex := [], nt := 55 })
      (Inv := fun i => i ≤ ks.length) (μ := fun i => ks.length - i) (x0 := 0) (Fits.fit [(0, 0)] [0, 3, 8, 43, 44, 45] 1 rfl rfl ?_) (Nat.zero_le _) ?_
    · simp only [go_sem, rnEs_dE, addsS]
      exact Fits.rfl
    intro j hi KL hKL
    by_cases hlt : j < ks.length
    · obtain ⟨⟨s', o', ks'⟩, hx, hm, hd⟩ := drop_at hlt
      have e1 : decide ((j : Int) < ks.length) = true := by simp; omega
      have hw := w64s j (by omega)
      have hc := ih _ hm p (addsS by_ (ks.take j) p (addD p by_ ds)) (addsS_keys by_ _ _ _ (addD_keys hn)) (hWx _ hm)
      simp only [shT_mk] at hc
      repeat' (first
        | ((show W _ _ _ _); first | (refine W.seq fun K hK => ?_) | refine W.block ?_ | (refine W.reg rfl ?_; simp only [go_sem, reduceCtorEq, e1, hw, avs_get, hx, Shp.av]) | (refine W.regD Try_mo rfl rfl ?_; simp only [go_sem, reduceCtorEq, e1, hw, avs_get, hx, Shp.av]) | (refine W.skip ?_; simp only [go_sem]) | (refine W.exit ?_; simp only [go_sem]) | (refine W.ret (Post.ret ?_); simp only [go_sem, reduceCtorEq, e1, hw, avs_get, hx, Shp.av]) | refine W.condT rfl ?_ | refine W.condF rfl ?_ | refine W.cond rfl (fun h => ?_) (fun h => ?_))
        | ((show AX _ _ _ _ _); first | (refine AX.pcall rfl rfl (by simp only [go_sem, unim_im]; rfl) (by solve_by_elim) rfl rfl ?_; simp only [go_sem, reduceCtorEq, e1, hw, avs_get, hx, Shp.av]) | (refine AX.pcallF rfl rfl (by simp only [go_sem, unim_im]; rfl) (by simp only [go_sem, unim_im]; rfl) (by solve_by_elim) rfl rfl ?_; simp only [go_sem, reduceCtorEq, e1, hw, avs_get, hx, Shp.av]) | (refine AX.lookup rfl (by first | exact tM65 | exact tM66) (by first | exact tG2 | exact tG3 | exact tG4 | exact tG5 | exact tG7 | exact tG9 | exact tG12 | exact tG13 | exact tG18 | exact tG19 | exact tG20 | exact tG21 | exact tG22 | exact tG23 | exact tG25 | exact tG26 | exact tG27 | exact tG34 | exact tG36 | exact tG37 | exact tG38 | exact tG46 | exact tG49 | exact tG50 | exact tG51 | exact tG58 | exact tG59 | exact tG65 | exact tG66 | exact tG69 | exact tG70 | exact tG72 | exact tG74 | exact tG75 | exact tG79 | exact tG80 | exact tG87 | exact tG90 | exact tG95 | exact tG96 | exact tG100 | exact tG103 | exact tG111 | exact tG117 | exact tG121 | exact tG128 | exact tG134 | exact tG142 | exact tG145 | exact tG148) (by first | exact kd9) rfl rfl rfl (by assumption) rfl ?_; simp only [go_sem, reduceCtorEq, e1, hw, avs_get, hx, Shp.av]) | (refine AX.mapUpdate rfl rfl (by first | exact tM65 | exact tM66) (by first | exact kd9) rfl rfl rfl (by assumption) rfl (by simp only [go_sem, reduceCtorEq, e1, hw, avs_get, hx, Shp.av]) ?_; simp only [go_sem, reduceCtorEq, e1, hw, avs_get, hx, Shp.av]) | (refine AX.makeMap rfl (by first | exact tM65 | exact tM66) rfl ?_; simp only [go_sem, reduceCtorEq, e1, hw, avs_get, hx, Shp.av]) | (refine AX.lenMap rfl (by first | exact tM65 | exact tM66) rfl rfl rfl ?_; simp only [go_sem, reduceCtorEq, e1, hw, avs_get, hx, Shp.av]) | (refine AX.range rfl (by first | exact tM65 | exact tM66) rfl rfl rfl ?_; simp only [go_sem, reduceCtorEq, e1, hw, avs_get, hx, Shp.av]) | (refine AX.appendStr rfl (by first | exact tL22 | exact tL23 | exact tL25 | exact tL34 | exact tL36 | exact tL50 | exact tL100) (by simp only [go_sem]) (by simp only [go_sem]) (by simp only [go_sem]) rfl rfl rfl rfl (by simp only [go_sem, reduceCtorEq, e1, hw, avs_get, hx, Shp.av]; first | omega | (simp; omega)) ?_; simp only [go_sem, reduceCtorEq, e1, hw, avs_get, hx, Shp.av]) | (refine AX.shr rfl rfl rfl rfl (by first | decide | omega) ?_; simp only [go_sem, reduceCtorEq, e1, hw, avs_get, hx, Shp.av]) | (refine AX.shl rfl rfl rfl rfl (by first | decide | omega) ?_; simp only [go_sem, reduceCtorEq, e1, hw, avs_get, hx, Shp.av]) | (refine AX.bits rfl rfl rfl (by assumption) rfl ?_; simp only [go_sem, reduceCtorEq, e1, hw, avs_get, hx, Shp.av]) | (refine AX.nilSl rfl (by first | exact tL22 | exact tL23 | exact tL25 | exact tL34 | exact tL36 | exact tL50 | exact tL100) (by first | exact .inl rfl | exact .inr rfl) rfl rfl rfl ?_; simp only [go_sem, reduceCtorEq, e1, hw, avs_get, hx, Shp.av]))
        | ((show indepK _ _ _ _ = true ∧ _); refine And.intro (by kernel_rfl) ?_)
        | ((show _ ∧ _); refine And.intro (by first | omega | assumption | (simp only [go_sem]; omega) | (simp; omega) | (simp; done)) ?_)
        | (refine hK _ ?_; clear hK K)
        | (clear hK K; refine hK _ ?_; clear hK K)
        | (clear hK K; clear hK K; refine hK _ ?_; clear hK K)
        | (clear hK K; clear hK K; clear hK K; refine hK _ ?_; clear hK K)
        | fail)
      refine AX.gcall [0] rfl rfl (hc) (by simp only [go_sem, reduceCtorEq, rnEs_dE]) (by simp only [go_sem, reduceCtorEq, rnEs_dE]) rfl rfl (by simp only [go_sem, Obj.owns]) rfl (by simp only [go_sem, Obj.owns]) rfl rfl ?_
      simp only [go_sem, reduceCtorEq, rnEs_dE]
      repeat' (first
        | ((show W _ _ _ _); first | (refine W.seq fun K hK => ?_) | refine W.block ?_ | (refine W.reg rfl ?_; simp only [go_sem, reduceCtorEq, hw]) | (refine W.regD Try_mo rfl rfl ?_; simp only [go_sem, reduceCtorEq, hw]) | (refine W.skip ?_; simp only [go_sem]) | (refine W.exit ?_; simp only [go_sem]) | (refine W.ret (Post.ret ?_); simp only [go_sem, reduceCtorEq, hw]) | refine W.condT rfl ?_ | refine W.condF rfl ?_ | refine W.cond rfl (fun h => ?_) (fun h => ?_))
        | ((show AX _ _ _ _ _); first | (refine AX.pcall rfl rfl (by simp only [go_sem, unim_im]; rfl) (by solve_by_elim) rfl rfl ?_; simp only [go_sem, reduceCtorEq, hw]) | (refine AX.pcallF rfl rfl (by simp only [go_sem, unim_im]; rfl) (by simp only [go_sem, unim_im]; rfl) (by solve_by_elim) rfl rfl ?_; simp only [go_sem, reduceCtorEq, hw]) | (refine AX.lookup rfl (by first | exact tM65 | exact tM66) (by first | exact tG2 | exact tG3 | exact tG4 | exact tG5 | exact tG7 | exact tG9 | exact tG12 | exact tG13 | exact tG18 | exact tG19 | exact tG20 | exact tG21 | exact tG22 | exact tG23 | exact tG25 | exact tG26 | exact tG27 | exact tG34 | exact tG36 | exact tG37 | exact tG38 | exact tG46 | exact tG49 | exact tG50 | exact tG51 | exact tG58 | exact tG59 | exact tG65 | exact tG66 | exact tG69 | exact tG70 | exact tG72 | exact tG74 | exact tG75 | exact tG79 | exact tG80 | exact tG87 | exact tG90 | exact tG95 | exact tG96 | exact tG100 | exact tG103 | exact tG111 | exact tG117 | exact tG121 | exact tG128 | exact tG134 | exact tG142 | exact tG145 | exact tG148) (by first | exact kd9) rfl rfl rfl (by assumption) rfl ?_; simp only [go_sem, reduceCtorEq, hw]) | (refine AX.mapUpdate rfl rfl (by first | exact tM65 | exact tM66) (by first | exact kd9) rfl rfl rfl (by assumption) rfl (by simp only [go_sem, reduceCtorEq, hw]) ?_; simp only [go_sem, reduceCtorEq, hw]) | (refine AX.makeMap rfl (by first | exact tM65 | exact tM66) rfl ?_; simp only [go_sem, reduceCtorEq, hw]) | (refine AX.lenMap rfl (by first | exact tM65 | exact tM66) rfl rfl rfl ?_; simp only [go_sem, reduceCtorEq, hw]) | (refine AX.range rfl (by first | exact tM65 | exact tM66) rfl rfl rfl ?_; simp only [go_sem, reduceCtorEq, hw]) | (refine AX.appendStr rfl (by first | exact tL22 | exact tL23 | exact tL25 | exact tL34 | exact tL36 | exact tL50 | exact tL100) (by simp only [go_sem]) (by simp only [go_sem]) (by simp only [go_sem]) rfl rfl rfl rfl (by simp only [go_sem, reduceCtorEq, hw]; first | omega | (simp; omega)) ?_; simp only [go_sem, reduceCtorEq, hw]) | (refine AX.shr rfl rfl rfl rfl (by first | decide | omega) ?_; simp only [go_sem, reduceCtorEq, hw]) | (refine AX.shl rfl rfl rfl rfl (by first | decide | omega) ?_; simp only [go_sem, reduceCtorEq, hw]) | (refine AX.bits rfl rfl rfl (by assumption) rfl ?_; simp only [go_sem, reduceCtorEq, hw]) | (refine AX.nilSl rfl (by first | exact tL22 | exact tL23 | exact tL25 | exact tL34 | exact tL36 | exact tL50 | exact tL100) (by first | exact .inl rfl | exact .inr rfl) rfl rfl rfl ?_; simp only [go_sem, reduceCtorEq, hw]))
        | ((show indepK _ _ _ _ = true ∧ _); refine And.intro (by kernel_rfl) ?_)
        | ((show _ ∧ _); refine And.intro (by first | omega | assumption | (simp only [go_sem]; omega) | (simp; omega) | (simp; done)) ?_)
        | (refine hK _ ?_; clear hK K)
        | (clear hK K; refine hK _ ?_; clear hK K)
        | (clear hK K; clear hK K; refine hK _ ?_; clear hK K)
        | (clear hK K; clear hK K; clear hK K; refine hK _ ?_; clear hK K)
        | fail)
      refine hKL.to (j + 1) (by omega) (by omega) (Fits.fit [(0, 0)] [0, 3, 8, 43, 44, 45] 1 rfl rfl ?_)
      simp only [go_sem, take_at hx, addsS_app, addsS, rnEs_dE]
      exact Fits.rfl
    · have e1 : decide ((j : Int) < ks.length) = false := by simp; omega
      obtain rfl : j = ks.length := by omega
      clear hKL
      repeat' (first
        | ((show W _ _ _ _); first | (refine W.seq fun K hK => ?_) | refine W.block ?_ | (refine W.reg rfl ?_; simp only [go_sem, reduceCtorEq, e1]) | (refine W.regD Try_mo rfl rfl ?_; simp only [go_sem, reduceCtorEq, e1]) | (refine W.skip ?_; simp only [go_sem]) | (refine W.exit ?_; simp only [go_sem]) | (refine W.ret (Post.ret ?_); simp only [go_sem, reduceCtorEq, e1]) | refine W.condT rfl ?_ | refine W.condF rfl ?_ | refine W.cond rfl (fun h => ?_) (fun h => ?_))
        | ((show AX _ _ _ _ _); first | (refine AX.pcall rfl rfl (by simp only [go_sem, unim_im]; rfl) (by solve_by_elim) rfl rfl ?_; simp only [go_sem, reduceCtorEq, e1]) | (refine AX.pcallF rfl rfl (by simp only [go_sem, unim_im]; rfl) (by simp only [go_sem, unim_im]; rfl) (by solve_by_elim) rfl rfl ?_; simp only [go_sem, reduceCtorEq, e1]) | (refine AX.lookup rfl (by first | exact tM65 | exact tM66) (by first | exact tG2 | exact tG3 | exact tG4 | exact tG5 | exact tG7 | exact tG9 | exact tG12 | exact tG13 | exact tG18 | exact tG19 | exact tG20 | exact tG21 | exact tG22 | exact tG23 | exact tG25 | exact tG26 | exact tG27 | exact tG34 | exact tG36 | exact tG37 | exact tG38 | exact tG46 | exact tG49 | exact tG50 | exact tG51 | exact tG58 | exact tG59 | exact tG65 | exact tG66 | exact tG69 | exact tG70 | exact tG72 | exact tG74 | exact tG75 | exact tG79 | exact tG80 | exact tG87 | exact tG90 | exact tG95 | exact tG96 | exact tG100 | exact tG103 | exact tG111 | exact tG117 | exact tG121 | exact tG128 | exact tG134 | exact tG142 | exact tG145 | exact tG148) (by first | exact kd9) rfl rfl rfl (by assumption) rfl ?_; simp only [go_sem, reduceCtorEq, e1]) | (refine AX.mapUpdate rfl rfl (by first | exact tM65 | exact tM66) (by first | exact kd9) rfl rfl rfl (by assumption) rfl (by simp only [go_sem, reduceCtorEq, e1]) ?_; simp only [go_sem, reduceCtorEq, e1]) | (refine AX.makeMap rfl (by first | exact tM65 | exact tM66) rfl ?_; simp only [go_sem, reduceCtorEq, e1]) | (refine AX.lenMap rfl (by first | exact tM65 | exact tM66) rfl rfl rfl ?_; simp only [go_sem, reduceCtorEq, e1]) | (refine AX.range rfl (by first | exact tM65 | exact tM66) rfl rfl rfl ?_; simp only [go_sem, reduceCtorEq, e1]) | (refine AX.appendStr rfl (by first | exact tL22 | exact tL23 | exact tL25 | exact tL34 | exact tL36 | exact tL50 | exact tL100) (by simp only [go_sem]) (by simp only [go_sem]) (by simp only [go_sem]) rfl rfl rfl rfl (by simp only [go_sem, reduceCtorEq, e1]; first | omega | (simp; omega)) ?_; simp only [go_sem, reduceCtorEq, e1]) | (refine AX.shr rfl rfl rfl rfl (by first | decide | omega) ?_; simp only [go_sem, reduceCtorEq, e1]) | (refine AX.shl rfl rfl rfl rfl (by first | decide | omega) ?_; simp only [go_sem, reduceCtorEq, e1]) | (refine AX.bits rfl rfl rfl (by assumption) rfl ?_; simp only [go_sem, reduceCtorEq, e1]) | (refine AX.nilSl rfl (by first | exact tL22 | exact tL23 | exact tL25 | exact tL34 | exact tL36 | exact tL50 | exact tL100) (by first | exact .inl rfl | exact .inr rfl) rfl rfl rfl ?_; simp only [go_sem, reduceCtorEq, e1]))
        | ((show indepK _ _ _ _ = true ∧ _); refine And.intro (by kernel_rfl) ?_)
        | ((show _ ∧ _); refine And.intro (by first | omega | assumption | (simp only [go_sem]; omega) | (simp; omega) | (simp; done)) ?_)
        | (refine hK _ ?_; clear hK K)
        | (clear hK K; refine hK _ ?_; clear hK K)
        | (clear hK K; clear hK K; refine hK _ ?_; clear hK K)
        | (clear hK K; clear hK K; clear hK K; refine hK _ ?_; clear hK K)
        | fail)
      refine PostG.normal (Fits.fit [(0, 0)] [] 1 rfl rfl Fits.rfl) rfl rfl ?_
      simp only [St.r, go_sem, List.take_length, rnEs_dE, hS]
  · have hno : ∀ d ∈ ds, pathB d.1 ≠ pathB p := fun d hd e => hex ⟨d, hd, e⟩
    have hget0 : mget (Value.string ⟨(pathB p).toArray⟩) (dE ds) = none := mget_dE_none hno
    have hne : ∀ e ∈ dE ds, e.1 ≠ Value.string ⟨(pathB p).toArray⟩ := fun e he => by
      obtain ⟨d, hd, rfl⟩ := List.mem_map.1 he
      exact fun e => hno d hd (pkey_inj.1 e)
    have hput : ∀ y, mput (Value.string ⟨(pathB p).toArray⟩) y (dE ds) = dE ds ++ [(Value.string ⟨(pathB p).toArray⟩, y)] := fun y => mput_none hne
    have hget1 : ∀ y, mget (Value.string ⟨(pathB p).toArray⟩) (dE ds ++ [(Value.string ⟨(pathB p).toArray⟩, y)]) = some y := fun y => by
      have : ∀ l : List (Value × Bool × List Cell), (∀ e ∈ l, e.1 ≠ Value.string ⟨(pathB p).toArray⟩) → mget (Value.string ⟨(pathB p).toArray⟩) (l ++ [(Value.string ⟨(pathB p).toArray⟩, y)]) = some y := by
        intro l
        induction l with
        | nil => intro _; simp [mget]
        | cons e l ih => intro h; simp only [List.cons_append, mget]; rw [if_neg (h e (by simp)), ih fun x hx => h x (by simp [hx])]
      exact this _ hne
    have hadd : addD p (by_) ds = ds ++ [(p, by_)] := addD_none hno
    have hset : setE (dE ds ++ [(Value.string ⟨(pathB p).toArray⟩, (false, [Cell.ptr 10 0]))]) ds.length (.obox 38 (dlA (p, IntKind.i64.wrap (0 + by_)))) = dE (addD p by_ ds) := by
      rw [hadd, hby]
      have : ∀ (l : List Dl), setE (dE l ++ [(Value.string ⟨(pathB p).toArray⟩, (false, [Cell.ptr 10 0]))]) l.length (.obox 38 (dlA (p, by_))) = dE (l ++ [(p, by_)]) := by
        intro l
        induction l with
        | nil => rfl
        | cons d l ih => simp only [dE, List.map_cons, List.cons_append, List.length_cons, setE] at ih ⊢; rw [ih]
      exact this ds
    repeat' (first
      | ((show W _ _ _ _); first | refine W.stop (id := 6) ?_ | (refine W.seq fun K hK => ?_) | refine W.block ?_ | (refine W.reg rfl ?_; simp only [go_sem, reduceCtorEq, hget0, hput, hget1]) | (refine W.regD Try_mo rfl rfl ?_; simp only [go_sem, reduceCtorEq, hget0, hput, hget1]) | (refine W.skip ?_; simp only [go_sem]) | (refine W.exit ?_; simp only [go_sem]) | (refine W.ret (Post.ret ?_); simp only [go_sem, reduceCtorEq, hget0, hput, hget1]) | refine W.condT rfl ?_ | refine W.condF rfl ?_ | refine W.cond rfl (fun h => ?_) (fun h => ?_))
      | ((show AX _ _ _ _ _); first | (refine AX.pcall rfl rfl (by simp only [go_sem, unim_im]; rfl) (by solve_by_elim) rfl rfl ?_; simp only [go_sem, reduceCtorEq, hget0, hput, hget1]) | (refine AX.pcallF rfl rfl (by simp only [go_sem, unim_im]; rfl) (by simp only [go_sem, unim_im]; rfl) (by solve_by_elim) rfl rfl ?_; simp only [go_sem, reduceCtorEq, hget0, hput, hget1]) | (refine AX.lookup rfl (by first | exact tM65 | exact tM66) (by first | exact tG2 | exact tG3 | exact tG4 | exact tG5 | exact tG7 | exact tG9 | exact tG12 | exact tG13 | exact tG18 | exact tG19 | exact tG20 | exact tG21 | exact tG22 | exact tG23 | exact tG25 | exact tG26 | exact tG27 | exact tG34 | exact tG36 | exact tG37 | exact tG38 | exact tG46 | exact tG49 | exact tG50 | exact tG51 | exact tG58 | exact tG59 | exact tG65 | exact tG66 | exact tG69 | exact tG70 | exact tG72 | exact tG74 | exact tG75 | exact tG79 | exact tG80 | exact tG87 | exact tG90 | exact tG95 | exact tG96 | exact tG100 | exact tG103 | exact tG111 | exact tG117 | exact tG121 | exact tG128 | exact tG134 | exact tG142 | exact tG145 | exact tG148) (by first | exact kd9) rfl rfl rfl (by assumption) rfl ?_; simp only [go_sem, reduceCtorEq, hget0, hput, hget1]) | (refine AX.mapUpdate rfl rfl (by first | exact tM65 | exact tM66) (by first | exact kd9) rfl rfl rfl (by assumption) rfl (by simp only [go_sem, reduceCtorEq, hget0, hput, hget1]) ?_; simp only [go_sem, reduceCtorEq, hget0, hput, hget1]) | (refine AX.makeMap rfl (by first | exact tM65 | exact tM66) rfl ?_; simp only [go_sem, reduceCtorEq, hget0, hput, hget1]) | (refine AX.lenMap rfl (by first | exact tM65 | exact tM66) rfl rfl rfl ?_; simp only [go_sem, reduceCtorEq, hget0, hput, hget1]) | (refine AX.range rfl (by first | exact tM65 | exact tM66) rfl rfl rfl ?_; simp only [go_sem, reduceCtorEq, hget0, hput, hget1]) | (refine AX.appendStr rfl (by first | exact tL22 | exact tL23 | exact tL25 | exact tL34 | exact tL36 | exact tL50 | exact tL100) (by simp only [go_sem]) (by simp only [go_sem]) (by simp only [go_sem]) rfl rfl rfl rfl (by simp only [go_sem, reduceCtorEq, hget0, hput, hget1]; first | omega | (simp; omega)) ?_; simp only [go_sem, reduceCtorEq, hget0, hput, hget1]) | (refine AX.shr rfl rfl rfl rfl (by first | decide | omega) ?_; simp only [go_sem, reduceCtorEq, hget0, hput, hget1]) | (refine AX.shl rfl rfl rfl rfl (by first | decide | omega) ?_; simp only [go_sem, reduceCtorEq, hget0, hput, hget1]) | (refine AX.bits rfl rfl rfl (by assumption) rfl ?_; simp only [go_sem, reduceCtorEq, hget0, hput, hget1]) | (refine AX.nilSl rfl (by first | exact tL22 | exact tL23 | exact tL25 | exact tL34 | exact tL36 | exact tL50 | exact tL100) (by first | exact .inl rfl | exact .inr rfl) rfl rfl rfl ?_; simp only [go_sem, reduceCtorEq, hget0, hput, hget1]))
      | ((show indepK _ _ _ _ = true ∧ _); refine And.intro (by kernel_rfl) ?_)
      | ((show _ ∧ _); refine And.intro (by first | omega | assumption | (simp only [go_sem]; omega) | (simp; omega) | (simp; done)) ?_)
      | (refine hK _ ?_; clear hK K)
      | (clear hK K; refine hK _ ?_; clear hK K)
      | (clear hK K; clear hK K; refine hK _ ?_; clear hK K)
      | (clear hK K; clear hK K; clear hK K; refine hK _ ?_; clear hK K)
      | fail)
    refine Stop.out ?_
    refine W.fits (s' := { t := [(0, .c (.mp 0)), (3, ft (.int .i64 by_)), (5, .c (.ptr 1 0)), (8, .c (.im (.sl 59 (p.map nmA))))], h := [(0, .map 9 (dE (addD p by_ ds))), (1, .box 27 [fl (.string s), fl (.string o), .im (.sl 27 (avs ks))])], nx := 2, ex := [], nt := 55 }) ?_ ?_
    · refine Fits.fold 0 ds.length 0 10 (.obox 38 (dlA (p, IntKind.i64.wrap (0 + by_)))) rfl rfl rfl (by simp [Obj.slot, dE, refCell]) (by decide) ?_
      simp only [go_sem, hset]
      refine Fits.fit [(0, 0), (1, 1)] [0, 3, 5, 8] 2 rfl rfl ?_
      simp only [go_sem, rnEs_dE]
      exact Fits.rfl
    repeat' (first
      | ((show W _ _ _ _); first | (refine W.seq fun K hK => ?_) | refine W.block ?_ | (refine W.reg rfl ?_; simp only [go_sem, reduceCtorEq, avs_len]) | (refine W.regD Try_mo rfl rfl ?_; simp only [go_sem, reduceCtorEq, avs_len]) | (refine W.skip ?_; simp only [go_sem]) | (refine W.exit ?_; simp only [go_sem]) | (refine W.ret (Post.ret ?_); simp only [go_sem, reduceCtorEq, avs_len]) | refine W.condT rfl ?_ | refine W.condF rfl ?_ | refine W.cond rfl (fun h => ?_) (fun h => ?_))
      | ((show AX _ _ _ _ _); first | (refine AX.pcall rfl rfl (by simp only [go_sem, unim_im]; rfl) (by solve_by_elim) rfl rfl ?_; simp only [go_sem, reduceCtorEq, avs_len]) | (refine AX.pcallF rfl rfl (by simp only [go_sem, unim_im]; rfl) (by simp only [go_sem, unim_im]; rfl) (by solve_by_elim) rfl rfl ?_; simp only [go_sem, reduceCtorEq, avs_len]) | (refine AX.lookup rfl (by first | exact tM65 | exact tM66) (by first | exact tG2 | exact tG3 | exact tG4 | exact tG5 | exact tG7 | exact tG9 | exact tG12 | exact tG13 | exact tG18 | exact tG19 | exact tG20 | exact tG21 | exact tG22 | exact tG23 | exact tG25 | exact tG26 | exact tG27 | exact tG34 | exact tG36 | exact tG37 | exact tG38 | exact tG46 | exact tG49 | exact tG50 | exact tG51 | exact tG58 | exact tG59 | exact tG65 | exact tG66 | exact tG69 | exact tG70 | exact tG72 | exact tG74 | exact tG75 | exact tG79 | exact tG80 | exact tG87 | exact tG90 | exact tG95 | exact tG96 | exact tG100 | exact tG103 | exact tG111 | exact tG117 | exact tG121 | exact tG128 | exact tG134 | exact tG142 | exact tG145 | exact tG148) (by first | exact kd9) rfl rfl rfl (by assumption) rfl ?_; simp only [go_sem, reduceCtorEq, avs_len]) | (refine AX.mapUpdate rfl rfl (by first | exact tM65 | exact tM66) (by first | exact kd9) rfl rfl rfl (by assumption) rfl (by simp only [go_sem, reduceCtorEq, avs_len]) ?_; simp only [go_sem, reduceCtorEq, avs_len]) | (refine AX.makeMap rfl (by first | exact tM65 | exact tM66) rfl ?_; simp only [go_sem, reduceCtorEq, avs_len]) | (refine AX.lenMap rfl (by first | exact tM65 | exact tM66) rfl rfl rfl ?_; simp only [go_sem, reduceCtorEq, avs_len]) | (refine AX.range rfl (by first | exact tM65 | exact tM66) rfl rfl rfl ?_; simp only [go_sem, reduceCtorEq, avs_len]) | (refine AX.appendStr rfl (by first | exact tL22 | exact tL23 | exact tL25 | exact tL34 | exact tL36 | exact tL50 | exact tL100) (by simp only [go_sem]) (by simp only [go_sem]) (by simp only [go_sem]) rfl rfl rfl rfl (by simp only [go_sem, reduceCtorEq, avs_len]; first | omega | (simp; omega)) ?_; simp only [go_sem, reduceCtorEq, avs_len]) | (refine AX.shr rfl rfl rfl rfl (by first | decide | omega) ?_; simp only [go_sem, reduceCtorEq, avs_len]) | (refine AX.shl rfl rfl rfl rfl (by first | decide | omega) ?_; simp only [go_sem, reduceCtorEq, avs_len]) | (refine AX.bits rfl rfl rfl (by assumption) rfl ?_; simp only [go_sem, reduceCtorEq, avs_len]) | (refine AX.nilSl rfl (by first | exact tL22 | exact tL23 | exact tL25 | exact tL34 | exact tL36 | exact tL50 | exact tL100) (by first | exact .inl rfl | exact .inr rfl) rfl rfl rfl ?_; simp only [go_sem, reduceCtorEq, avs_len]))
      | ((show indepK _ _ _ _ = true ∧ _); refine And.intro (by kernel_rfl) ?_)
      | ((show _ ∧ _); refine And.intro (by first | omega | assumption | (simp only [go_sem]; omega) | (simp; omega) | (simp; done)) ?_)
      | (refine hK _ ?_; clear hK K)
      | (clear hK K; refine hK _ ?_; clear hK K)
      | (clear hK K; clear hK K; refine hK _ ?_; clear hK K)
      | (clear hK K; clear hK K; clear hK K; refine hK _ ?_; clear hK K)
      | fail)
    refine W.loopF (T := fun j : Nat => { t := [(0, .c (.mp 0)), (3, ft (.int .i64 by_)), (8, .c (.im (.sl 59 (p.map nmA)))), (43, .c (.im (.sl 27 (avs ks)))), (44, ft (.int .i64 ks.length)), (45, ft (.int .i64 (j : Nat)))], h := [(0, .map 9 (dE (addsS by_ (ks.take j) p (addD p by_ ds))))], nx := 1, ex := [], nt := 55 })
      (Inv := fun i => i ≤ ks.length) (μ := fun i => ks.length - i) (x0 := 0) (Fits.fit [(0, 0)] [0, 3, 8, 43, 44, 45] 1 rfl rfl ?_) (Nat.zero_le _) ?_
    · simp only [go_sem, rnEs_dE, addsS]
      exact Fits.rfl
    intro j hi KL hKL
    by_cases hlt : j < ks.length
    · obtain ⟨⟨s', o', ks'⟩, hx, hm, hd⟩ := drop_at hlt
      have e1 : decide ((j : Int) < ks.length) = true := by simp; omega
      have hw := w64s j (by omega)
      have hc := ih _ hm p (addsS by_ (ks.take j) p (addD p by_ ds)) (addsS_keys by_ _ _ _ (addD_keys hn)) (hWx _ hm)
      simp only [shT_mk] at hc
      repeat' (first
        | ((show W _ _ _ _); first | (refine W.seq fun K hK => ?_) | refine W.block ?_ | (refine W.reg rfl ?_; simp only [go_sem, reduceCtorEq, e1, hw, avs_get, hx, Shp.av]) | (refine W.regD Try_mo rfl rfl ?_; simp only [go_sem, reduceCtorEq, e1, hw, avs_get, hx, Shp.av]) | (refine W.skip ?_; simp only [go_sem]) | (refine W.exit ?_; simp only [go_sem]) | (refine W.ret (Post.ret ?_); simp only [go_sem, reduceCtorEq, e1, hw, avs_get, hx, Shp.av]) | refine W.condT rfl ?_ | refine W.condF rfl ?_ | refine W.cond rfl (fun h => ?_) (fun h => ?_))
        | ((show AX _ _ _ _ _); first | (refine AX.pcall rfl rfl (by simp only [go_sem, unim_im]; rfl) (by solve_by_elim) rfl rfl ?_; simp only [go_sem, reduceCtorEq, e1, hw, avs_get, hx, Shp.av]) | (refine AX.pcallF rfl rfl (by simp only [go_sem, unim_im]; rfl) (by simp only [go_sem, unim_im]; rfl) (by solve_by_elim) rfl rfl ?_; simp only [go_sem, reduceCtorEq, e1, hw, avs_get, hx, Shp.av]) | (refine AX.lookup rfl (by first | exact tM65 | exact tM66) (by first | exact tG2 | exact tG3 | exact tG4 | exact tG5 | exact tG7 | exact tG9 | exact tG12 | exact tG13 | exact tG18 | exact tG19 | exact tG20 | exact tG21 | exact tG22 | exact tG23 | exact tG25 | exact tG26 | exact tG27 | exact tG34 | exact tG36 | exact tG37 | exact tG38 | exact tG46 | exact tG49 | exact tG50 | exact tG51 | exact tG58 | exact tG59 | exact tG65 | exact tG66 | exact tG69 | exact tG70 | exact tG72 | exact tG74 | exact tG75 | exact tG79 | exact tG80 | exact tG87 | exact tG90 | exact tG95 | exact tG96 | exact tG100 | exact tG103 | exact tG111 | exact tG117 | exact tG121 | exact tG128 | exact tG134 | exact tG142 | exact tG145 | exact tG148) (by first | exact kd9) rfl rfl rfl (by assumption) rfl ?_; simp only [go_sem, reduceCtorEq, e1, hw, avs_get, hx, Shp.av]) | (refine AX.mapUpdate rfl rfl (by first | exact tM65 | exact tM66) (by first | exact kd9) rfl rfl rfl (by assumption) rfl (by simp only [go_sem, reduceCtorEq, e1, hw, avs_get, hx, Shp.av]) ?_; simp only [go_sem, reduceCtorEq, e1, hw, avs_get, hx, Shp.av]) | (refine AX.makeMap rfl (by first | exact tM65 | exact tM66) rfl ?_; simp only [go_sem, reduceCtorEq, e1, hw, avs_get, hx, Shp.av]) | (refine AX.lenMap rfl (by first | exact tM65 | exact tM66) rfl rfl rfl ?_; simp only [go_sem, reduceCtorEq, e1, hw, avs_get, hx, Shp.av]) | (refine AX.range rfl (by first | exact tM65 | exact tM66) rfl rfl rfl ?_; simp only [go_sem, reduceCtorEq, e1, hw, avs_get, hx, Shp.av]) | (refine AX.appendStr rfl (by first | exact tL22 | exact tL23 | exact tL25 | exact tL34 | exact tL36 | exact tL50 | exact tL100) (by simp only [go_sem]) (by simp only [go_sem]) (by simp only [go_sem]) rfl rfl rfl rfl (by simp only [go_sem, reduceCtorEq, e1, hw, avs_get, hx, Shp.av]; first | omega | (simp; omega)) ?_; simp only [go_sem, reduceCtorEq, e1, hw, avs_get, hx, Shp.av]) | (refine AX.shr rfl rfl rfl rfl (by first | decide | omega) ?_; simp only [go_sem, reduceCtorEq, e1, hw, avs_get, hx, Shp.av]) | (refine AX.shl rfl rfl rfl rfl (by first | decide | omega) ?_; simp only [go_sem, reduceCtorEq, e1, hw, avs_get, hx, Shp.av]) | (refine AX.bits rfl rfl rfl (by assumption) rfl ?_; simp only [go_sem, reduceCtorEq, e1, hw, avs_get, hx, Shp.av]) | (refine AX.nilSl rfl (by first | exact tL22 | exact tL23 | exact tL25 | exact tL34 | exact tL36 | exact tL50 | exact tL100) (by first | exact .inl rfl | exact .inr rfl) rfl rfl rfl ?_; simp only [go_sem, reduceCtorEq, e1, hw, avs_get, hx, Shp.av]))
        | ((show indepK _ _ _ _ = true ∧ _); refine And.intro (by kernel_rfl) ?_)
        | ((show _ ∧ _); refine And.intro (by first | omega | assumption | (simp only [go_sem]; omega) | (simp; omega) | (simp; done)) ?_)
        | (refine hK _ ?_; clear hK K)
        | (clear hK K; refine hK _ ?_; clear hK K)
        | (clear hK K; clear hK K; refine hK _ ?_; clear hK K)
        | (clear hK K; clear hK K; clear hK K; refine hK _ ?_; clear hK K)
        | fail)
      refine AX.gcall [0] rfl rfl (hc) (by simp only [go_sem, reduceCtorEq, rnEs_dE]) (by simp only [go_sem, reduceCtorEq, rnEs_dE]) rfl rfl (by simp only [go_sem, Obj.owns]) rfl (by simp only [go_sem, Obj.owns]) rfl rfl ?_
      simp only [go_sem, reduceCtorEq, rnEs_dE]
      repeat' (first
        | ((show W _ _ _ _); first | (refine W.seq fun K hK => ?_) | refine W.block ?_ | (refine W.reg rfl ?_; simp only [go_sem, reduceCtorEq, hw]) | (refine W.regD Try_mo rfl rfl ?_; simp only [go_sem, reduceCtorEq, hw]) | (refine W.skip ?_; simp only [go_sem]) | (refine W.exit ?_; simp only [go_sem]) | (refine W.ret (Post.ret ?_); simp only [go_sem, reduceCtorEq, hw]) | refine W.condT rfl ?_ | refine W.condF rfl ?_ | refine W.cond rfl (fun h => ?_) (fun h => ?_))
        | ((show AX _ _ _ _ _); first | (refine AX.pcall rfl rfl (by simp only [go_sem, unim_im]; rfl) (by solve_by_elim) rfl rfl ?_; simp only [go_sem, reduceCtorEq, hw]) | (refine AX.pcallF rfl rfl (by simp only [go_sem, unim_im]; rfl) (by simp only [go_sem, unim_im]; rfl) (by solve_by_elim) rfl rfl ?_; simp only [go_sem, reduceCtorEq, hw]) | (refine AX.lookup rfl (by first | exact tM65 | exact tM66) (by first | exact tG2 | exact tG3 | exact tG4 | exact tG5 | exact tG7 | exact tG9 | exact tG12 | exact tG13 | exact tG18 | exact tG19 | exact tG20 | exact tG21 | exact tG22 | exact tG23 | exact tG25 | exact tG26 | exact tG27 | exact tG34 | exact tG36 | exact tG37 | exact tG38 | exact tG46 | exact tG49 | exact tG50 | exact tG51 | exact tG58 | exact tG59 | exact tG65 | exact tG66 | exact tG69 | exact tG70 | exact tG72 | exact tG74 | exact tG75 | exact tG79 | exact tG80 | exact tG87 | exact tG90 | exact tG95 | exact tG96 | exact tG100 | exact tG103 | exact tG111 | exact tG117 | exact tG121 | exact tG128 | exact tG134 | exact tG142 | exact tG145 | exact tG148) (by first | exact kd9) rfl rfl rfl (by assumption) rfl ?_; simp only [go_sem, reduceCtorEq, hw]) | (refine AX.mapUpdate rfl rfl (by first | exact tM65 | exact tM66) (by first | exact kd9) rfl rfl rfl (by assumption) rfl (by simp only [go_sem, reduceCtorEq, hw]) ?_; simp only [go_sem, reduceCtorEq, hw]) | (refine AX.makeMap rfl (by first | exact tM65 | exact tM66) rfl ?_; simp only [go_sem, reduceCtorEq, hw]) | (refine AX.lenMap rfl (by first | exact tM65 | exact tM66) rfl rfl rfl ?_; simp only [go_sem, reduceCtorEq, hw]) | (refine AX.range rfl (by first | exact tM65 | exact tM66) rfl rfl rfl ?_; simp only [go_sem, reduceCtorEq, hw]) | (refine AX.appendStr rfl (by first | exact tL22 | exact tL23 | exact tL25 | exact tL34 | exact tL36 | exact tL50 | exact tL100) (by simp only [go_sem]) (by simp only [go_sem]) (by simp only [go_sem]) rfl rfl rfl rfl (by simp only [go_sem, reduceCtorEq, hw]; first | omega | (simp; omega)) ?_; simp only [go_sem, reduceCtorEq, hw]) | (refine AX.shr rfl rfl rfl rfl (by first | decide | omega) ?_; simp only [go_sem, reduceCtorEq, hw]) | (refine AX.shl rfl rfl rfl rfl (by first | decide | omega) ?_; simp only [go_sem, reduceCtorEq, hw]) | (refine AX.bits rfl rfl rfl (by assumption) rfl ?_; simp only [go_sem, reduceCtorEq, hw]) | (refine AX.nilSl rfl (by first | exact tL22 | exact tL23 | exact tL25 | exact tL34 | exact tL36 | exact tL50 | exact tL100) (by first | exact .inl rfl | exact .inr rfl) rfl rfl rfl ?_; simp only [go_sem, reduceCtorEq, hw]))
        | ((show indepK _ _ _ _ = true ∧ _); refine And.intro (by kernel_rfl) ?_)
        | ((show _ ∧ _); refine And.intro (by first | omega | assumption | (simp only [go_sem]; omega) | (simp; omega) | (simp; done)) ?_)
        | (refine hK _ ?_; clear hK K)
        | (clear hK K; refine hK _ ?_; clear hK K)
        | (clear hK K; clear hK K; refine hK _ ?_; clear hK K)
        | (clear hK K; clear hK K; clear hK K; refine hK _ ?_; clear hK K)
        | fail)
      refine hKL.to (j + 1) (by omega) (by omega) (Fits.fit [(0, 0)] [0, 3, 8, 43, 44, 45] 1 rfl rfl ?_)
      simp only [go_sem, take_at hx, addsS_app, addsS, rnEs_dE]
      exact Fits.rfl
    · have e1 : decide ((j : Int) < ks.length) = false := by simp; omega
      obtain rfl : j = ks.length := by omega
      clear hKL
      repeat' (first
        | ((show W _ _ _ _); first | (refine W.seq fun K hK => ?_) | refine W.block ?_ | (refine W.reg rfl ?_; simp only [go_sem, reduceCtorEq, e1]) | (refine W.regD Try_mo rfl rfl ?_; simp only [go_sem, reduceCtorEq, e1]) | (refine W.skip ?_; simp only [go_sem]) | (refine W.exit ?_; simp only [go_sem]) | (refine W.ret (Post.ret ?_); simp only [go_sem, reduceCtorEq, e1]) | refine W.condT rfl ?_ | refine W.condF rfl ?_ | refine W.cond rfl (fun h => ?_) (fun h => ?_))
        | ((show AX _ _ _ _ _); first | (refine AX.pcall rfl rfl (by simp only [go_sem, unim_im]; rfl) (by solve_by_elim) rfl rfl ?_; simp only [go_sem, reduceCtorEq, e1]) | (refine AX.pcallF rfl rfl (by simp only [go_sem, unim_im]; rfl) (by simp only [go_sem, unim_im]; rfl) (by solve_by_elim) rfl rfl ?_; simp only [go_sem, reduceCtorEq, e1]) | (refine AX.lookup rfl (by first | exact tM65 | exact tM66) (by first | exact tG2 | exact tG3 | exact tG4 | exact tG5 | exact tG7 | exact tG9 | exact tG12 | exact tG13 | exact tG18 | exact tG19 | exact tG20 | exact tG21 | exact tG22 | exact tG23 | exact tG25 | exact tG26 | exact tG27 | exact tG34 | exact tG36 | exact tG37 | exact tG38 | exact tG46 | exact tG49 | exact tG50 | exact tG51 | exact tG58 | exact tG59 | exact tG65 | exact tG66 | exact tG69 | exact tG70 | exact tG72 | exact tG74 | exact tG75 | exact tG79 | exact tG80 | exact tG87 | exact tG90 | exact tG95 | exact tG96 | exact tG100 | exact tG103 | exact tG111 | exact tG117 | exact tG121 | exact tG128 | exact tG134 | exact tG142 | exact tG145 | exact tG148) (by first | exact kd9) rfl rfl rfl (by assumption) rfl ?_; simp only [go_sem, reduceCtorEq, e1]) | (refine AX.mapUpdate rfl rfl (by first | exact tM65 | exact tM66) (by first | exact kd9) rfl rfl rfl (by assumption) rfl (by simp only [go_sem, reduceCtorEq, e1]) ?_; simp only [go_sem, reduceCtorEq, e1]) | (refine AX.makeMap rfl (by first | exact tM65 | exact tM66) rfl ?_; simp only [go_sem, reduceCtorEq, e1]) | (refine AX.lenMap rfl (by first | exact tM65 | exact tM66) rfl rfl rfl ?_; simp only [go_sem, reduceCtorEq, e1]) | (refine AX.range rfl (by first | exact tM65 | exact tM66) rfl rfl rfl ?_; simp only [go_sem, reduceCtorEq, e1]) | (refine AX.appendStr rfl (by first | exact tL22 | exact tL23 | exact tL25 | exact tL34 | exact tL36 | exact tL50 | exact tL100) (by simp only [go_sem]) (by simp only [go_sem]) (by simp only [go_sem]) rfl rfl rfl rfl (by simp only [go_sem, reduceCtorEq, e1]; first | omega | (simp; omega)) ?_; simp only [go_sem, reduceCtorEq, e1]) | (refine AX.shr rfl rfl rfl rfl (by first | decide | omega) ?_; simp only [go_sem, reduceCtorEq, e1]) | (refine AX.shl rfl rfl rfl rfl (by first | decide | omega) ?_; simp only [go_sem, reduceCtorEq, e1]) | (refine AX.bits rfl rfl rfl (by assumption) rfl ?_; simp only [go_sem, reduceCtorEq, e1]) | (refine AX.nilSl rfl (by first | exact tL22 | exact tL23 | exact tL25 | exact tL34 | exact tL36 | exact tL50 | exact tL100) (by first | exact .inl rfl | exact .inr rfl) rfl rfl rfl ?_; simp only [go_sem, reduceCtorEq, e1]))
        | ((show indepK _ _ _ _ = true ∧ _); refine And.intro (by kernel_rfl) ?_)
        | ((show _ ∧ _); refine And.intro (by first | omega | assumption | (simp only [go_sem]; omega) | (simp; omega) | (simp; done)) ?_)
        | (refine hK _ ?_; clear hK K)
        | (clear hK K; refine hK _ ?_; clear hK K)
        | (clear hK K; clear hK K; refine hK _ ?_; clear hK K)
        | (clear hK K; clear hK K; clear hK K; refine hK _ ?_; clear hK K)
        | fail)
      refine PostG.normal (Fits.fit [(0, 0)] [] 1 rfl rfl Fits.rfl) rfl rfl ?_
      simp only [St.r, go_sem, List.take_length, rnEs_dE, hS]
theorem add_all (by_ : Int) (hby : IntKind.i64.wrap (0 + by_) = by_) : ∀ x : Shp, AddC by_ x
  | .mk s o ks => add_c by_ hby s o ks fun x hx => add_all by_ hby x
termination_by x => SizeOf.sizeOf x
decreasing_by
  have := List.sizeOf_lt_of_mem hx
  simp only [Shp.mk.sizeOf_spec]
  omega
end Go.Proofs.Ytegcmciglakicaa
