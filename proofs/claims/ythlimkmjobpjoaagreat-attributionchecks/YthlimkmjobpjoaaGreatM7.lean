import Derived.Test.YthlimkmjobpjoaaGreatM6
import Derived.Test.YthlimkmjobpjoaaGreatM5
import Derived.Test.YthlimkmjobpjoaaGreatM3
import Derived.Test.YthlimkmjobpjoaaGreatM4
import Derived.Shelf.SlSortCmp.WholeK
import Derived.Shelf.SlSortCmp.NoneTotal
import Derived.Test.YthlimkmjobpjoaaGreatProg
import Derived.Shelf.SlLaysF0
import Derived.Shelf.SlGeneric
import Derived.Ground.SlsfProg
import Derived.Shelf.Spec.SlicesGrow
import Derived.Ground.Names8Prog
import Derived.Shelf.SortM.Plain
import Derived.Shelf.SortM.SortNone
import Derived.Ground.SlgmProg
set_option linter.unusedVariables false
set_option linter.unusedSimpArgs false
set_option maxHeartbeats 8000000
set_option maxRecDepth 100000
namespace Go.Proofs.YthlimkmjobpjoaaGreat
open Go.RowKit Go.Exe
/-! ### keys of tables as keys of a map -/
def okS (b : ByteArray) : Prop := b.size ≤ 140737488355328
def okK (k : Ky) : Prop := okS k.sv ∧ okS k.ve ∧ okS k.op
theorem szS {b : ByteArray} (h : okS b) : b.size ≤ maxLen := by rw [maxLen_is]; unfold okS at h; omega
theorem kl9 (d : Nat) {b : ByteArray} (h : okS b) : Tryz.prog.keyLits (d + 1) 9 [.string b] = some [.string b.data.toList] := by
  simp only [Program.keyLits, tU9]
  rw [if_pos (szS h)]
theorem fields63 : (Tryz.prog.fieldsOf 63).toList = [{ name := "Service", type := 9, offset := 0, embedded := false, tag := "", pkgPath := "", byteOffset := 0 }, { name := "Version", type := 9, offset := 1, embedded := false, tag := "", pkgPath := "", byteOffset := 16 }, { name := "Operation", type := 9, offset := 2, embedded := false, tag := "", pkgPath := "", byteOffset := 32 }] := by kernel_rfl
theorem st63 : Tryz.prog.underlying 63 = some (.struct (Tryz.prog.fieldsOf 63)) := by kernel_rfl
theorem co9 : Tryz.prog.cellsOf 9 = 1 := by kernel_rfl
theorem co63 : Tryz.prog.cellsOf 63 = 3 := by kernel_rfl
theorem al63 : (Tryz.prog.fieldsOf 63).all (·.name != "_") = true := by kernel_rfl
theorem kl63 (d : Nat) {a b c : ByteArray} (ha : okS a) (hb : okS b) (hc : okS c) : Tryz.prog.keyLits (d + 2) 63 [.string a, .string b, .string c] = some [.string a.data.toList, .string b.data.toList, .string c.data.toList] := by
  unfold Program.keyLits
  simp only [st63]
  simp only [co63, List.length_cons, List.length_nil, al63, and_self, if_true, fields63, List.mapM_cons, List.mapM_nil, co9, List.drop, List.take, kl9 d ha, kl9 d hb, kl9 d hc]
  rfl
theorem kt63 : Tryz.prog.keyType 63 = true := by kernel_rfl
theorem tsz2 : Nat.ble 2 (Tryz.prog.types.size + 1) = true := by kernel_rfl
theorem koK {k : Ky} (h : okK k) : KeyOk Tryz.prog 63 (kyV k) := by
  obtain ⟨n, hn⟩ : ∃ n, Tryz.prog.types.size + 1 = n + 2 := ⟨Tryz.prog.types.size + 1 - 2, (Nat.sub_add_cancel (Nat.le_of_ble_eq_true tsz2)).symm⟩
  unfold KeyOk
  have hf : (kyV k).formed Tryz.prog 63 = true := by
    unfold kyV Value.formed
    simp only [st63, co63]
    rfl
  have hc : (kyV k).cells.toList = [.string k.sv, .string k.ve, .string k.op] := rfl
  refine ⟨.string (keyBytes [.string k.sv.data.toList, .string k.ve.data.toList, .string k.op.data.toList]), ?_⟩
  unfold keyOf
  simp only [st63, kt63, hf, Bool.and_self, if_true, hc, hn, kl63 n h.1 h.2.1 h.2.2]
  rfl
theorem ezE_noOwn (k : Ky) (M : List En) : mget (kyV k) (ezE M) = none ∨ ∃ x, getE M k = some x ∧ mget (kyV k) (ezE M) = some (true, (enA x).map .im) := by
  rw [ezE_mget]
  cases h : getE M k with
  | none => exact .inl rfl
  | some x => exact .inr ⟨x, rfl, rfl⟩
attribute [local irreducible] W AX Run RunD AStep AOp AOpX AStB AStH AStG Fits PCall GCall PostG Post Stop
theorem add_c (M : List En) (hu : Unq M) (k : Ky) (hk : okK k) (e : En) (n : Int) :
    GCall Tryz.prog 46 1 (St.g [.c (.mp 0), kyT k, enT e, ft (.int .i64 n)] [(0, .map 63 (ezE M))] 1) (St.r (.t []) [(0, .map 63 (ezE (addW M k e.nm n)))] 1) := by
  have ko := koK hk
  have hput := ezE_add hu k e.nm n
  rcases ezE_noOwn k M with hq | ⟨x, hx, hq⟩
  · have hg : getE M k = none := by
      rw [ezE_mget] at hq
      cases h : getE M k with
      | none => rfl
      | some x => rw [h] at hq; cases hq
    rw [hg, Option.getD_none] at hput
    have hp := plus_c ⟨k, 0, 0, 0, 0⟩ e n
    simp only [kyT, enT, kyA, enA, kyV, List.map] at ko hput hq hp ⊢
    refine GCall.introG (nt := 20) (rs := []) Tryz.func46 rfl ⟨by kernel_rfl, by kernel_rfl, by kernel_rfl⟩ (by simp) ?_
    rintro ⟨P, w0, ok0, may, np, pblk⟩ rfl rfl
    simp only [go_sem]
    repeat' (first | refine W.seq fun K hK => ?_ | refine W.block ?_ | ((first | refine wR ?_ | refine wD ?_ | refine W.skip ?_ | refine W.exit ?_ | refine W.ret (Post.ret ?_) | refine aP ?_ | refine aF ?_ | refine aL ?_ | refine aU (hnn := by simp only [go_sem, reduceCtorEq, hq, hput]) ?_ | refine aL ?_ | refine aU (hnn := by simp only [go_sem, reduceCtorEq, hq, hput]) ?_ | refine aM ?_ | refine aN ?_ | refine aR ?_); simp only [go_sem, reduceCtorEq, hq, hput]) | refine wT ?_ | refine wF ?_ | refine wC (fun h => ?_) (fun h => ?_) | refine iK ?_ | refine aI2 ?_ | (refine hK _ ?_; clear hK K) | clear hK K)
    refine PostG.normal (Fits.fit [(0, 0)] [] 1 rfl rfl Fits.rfl) rfl rfl ?_
    simp only [St.r, go_sem, rnEs_ezE]
  · rw [hx, Option.getD_some] at hput
    obtain ⟨hxk, _⟩ := getE_some hx
    subst hxk
    have hp := plus_c x e n
    simp only [kyT, enT, kyA, enA, kyV, List.map] at ko hput hq hp ⊢
    refine GCall.introG (nt := 20) (rs := []) Tryz.func46 rfl ⟨by kernel_rfl, by kernel_rfl, by kernel_rfl⟩ (by simp) ?_
    rintro ⟨P, w0, ok0, may, np, pblk⟩ rfl rfl
    simp only [go_sem]
    repeat' (first | refine W.seq fun K hK => ?_ | refine W.block ?_ | ((first | refine wR ?_ | refine wD ?_ | refine W.skip ?_ | refine W.exit ?_ | refine W.ret (Post.ret ?_) | refine aP ?_ | refine aF ?_ | refine aL ?_ | refine aU (hnn := by simp only [go_sem, reduceCtorEq, hq, hput]) ?_ | refine aL ?_ | refine aU (hnn := by simp only [go_sem, reduceCtorEq, hq, hput]) ?_ | refine aM ?_ | refine aN ?_ | refine aR ?_); simp only [go_sem, reduceCtorEq, hq, hput]) | refine wT ?_ | refine wF ?_ | refine wC (fun h => ?_) (fun h => ?_) | refine iK ?_ | refine aI2 ?_ | (refine hK _ ?_; clear hK K) | clear hK K)
    refine PostG.normal (Fits.fit [(0, 0)] [] 1 rfl rfl Fits.rfl) rfl rfl ?_
    simp only [St.r, go_sem, rnEs_ezE]
end Go.Proofs.YthlimkmjobpjoaaGreat
namespace Go.Proofs.YthlimkmjobpjoaaGreat
open Go.RowKit Go.Exe
/-! ### the table of the sums -/
instance : Inhabited En := ⟨⟨⟨ByteArray.empty, ByteArray.empty, ByteArray.empty⟩, 0, 0, 0, 0⟩⟩
def selE (M : List En) (seen : List Nat) : List En := (seen.map fun j => M.getD j default).filter fun e => !e.emp
theorem selE_step {M : List En} {seen : List Nat} {j : Nat} {e : En} (h : M[j]? = some e) : selE M (seen ++ [j]) = selE M seen ++ if e.emp then [] else [e] := by
  unfold selE
  cases h2 : e.emp <;> simp [List.getD_eq_getElem?_getD, h, h2]
theorem selE_len (M : List En) (seen : List Nat) : (selE M seen).length ≤ seen.length := by
  have := List.length_filter_le (fun e : En => !e.emp) (seen.map fun j => M.getD j default)
  rw [List.length_map] at this
  exact this
theorem rangeE_getD (M : List En) : (List.range M.length).map (fun j => M.getD j default) = M := by
  apply List.ext_getElem?
  intro i
  rw [List.getElem?_map]
  by_cases h : i < M.length
  · rw [List.getElem?_range h]; simp [List.getD_eq_getElem?_getD, h]
  · rw [List.getElem?_eq_none (by simpa using h), List.getElem?_eq_none (by simpa using h)]; rfl
theorem selE_perm {M : List En} {seen : List Nat} (hn : seen.Nodup) (hb : ∀ j ∈ seen, j < M.length) (ha : ∀ j, j < M.length → j ∈ seen) : (selE M seen).Perm (M.filter fun e => !e.emp) := by
  have := ((seen_perm hn hb ha).map fun j => M.getD j default).filter fun e => !e.emp
  rw [rangeE_getD] at this
  exact this
theorem cmpE_ord (l : List En) : OrdOn cmpE l where
  irrefl x _ := by unfold cmpE; rw [lwKy.refl]; omega
  trans x _ y _ z _ h1 h2 := lwKy.lt1 h1 (Int.le_of_lt h2)
  ntrans x _ y _ z _ h1 h2 := by
    have a1 := lwKy.anti x.k y.k
    have a2 := lwKy.anti y.k z.k
    have a3 := lwKy.anti x.k z.k
    have := lwKy.tr z.k y.k x.k
    unfold cmpE at *
    omega
theorem tblE_uni {M zs : List En} (hu : Unq M) (hp : zs.Perm (M.filter fun e => !e.emp)) (hs : zs.Pairwise fun a b => ¬ cmpE b a < 0) : zs = tblE M := by
  refine srt_uni ?_ (tblE_srt hu) fun x => ?_
  · have h1 : zs.Pairwise fun a b => a.k ≠ b.k := (hp.pairwise_iff (fun {a b} h => Ne.symm h)).2 (hu.filter _)
    refine (h1.and hs).imp fun {a b} ⟨h2, h3⟩ => ?_
    have := lwKy.anti a.k b.k
    have h4 : cmpKy a.k b.k ≠ 0 := fun e => h2 (lwKy.eq _ _ e)
    unfold cmpE at h3
    unfold ltE
    omega
  · rw [hp.mem_iff, (tblE_perm M).mem_iff]
theorem imR_sn7 (l : List En) (e : En) : imR (l.map enA) ++ [(enA e).map .im] = imR ((l ++ [e]).map enA) := by simp [imR, imL]
attribute [local irreducible] W AX Run RunD AStep AOp AOpX AStB AStH AStG Fits PCall GCall PostG Post Stop
theorem table_c (c71 : SortC Tryz.prog 71 7) (M : List En) (hu : Unq M) (hlen : M.length * 80 ≤ 140737488355328) :
    PCall Tryz.prog 49 [.c (.im (.mp 63 (ezA M)))] (tbT (tblE M)) := by
  have c60 := empty_c
  have c84 := table1_c
  refine PCall.intro (nt := 22) (rs := [.tmp 2]) Tryz.func49 rfl ⟨by kernel_rfl, by kernel_rfl, by kernel_rfl⟩ (by simp) ?_
  rintro ⟨P, w0, ok0, may, np, pblk⟩ rfl rfl
  repeat' (first | refine W.seq fun K hK => ?_ | refine W.block ?_ | ((first | refine wR ?_ | refine wD ?_ | refine W.skip ?_ | refine W.exit ?_ | refine W.ret (Post.ret ?_) | refine aP ?_ | refine aF ?_ | refine aL ?_ | refine aU ?_ | refine aM ?_ | refine aN ?_ | refine aR ?_); simp only [go_sem, reduceCtorEq]) | refine wT ?_ | refine wF ?_ | refine wC (fun h => ?_) (fun h => ?_) | refine iK ?_ | refine aI2 ?_ | (refine hK _ ?_; clear hK K) | clear hK K)
  refine W.loopF (T := fun seen : List Nat => { t := [(3, .c (.ref 1)), (7, .c (.ptr 0 0))], h := [(0, .itf 63 (ezA M) seen), (1, .row 65 (imR ((selE M seen).map enA)))], nx := 2, ex := [], nt := 22 })
    (Inv := fun seen => seen.Nodup ∧ ∀ j ∈ seen, j < M.length) (μ := fun seen => M.length - seen.length) (x0 := []) (Fits.fit [(3, 0)] [3, 7] 1 rfl rfl ?_) ⟨List.nodup_nil, by simp⟩ ?_
  · simp only [go_sem]
    refine Fits.adopt 3 1 65 rfl rfl rfl tE65 rfl ?_
    refine Fits.fit [(0, 0), (1, 1)] [3, 7] 2 rfl rfl ?_
    simp only [go_sem, selE, List.map_nil, List.filter_nil, imR_nil]
    exact Fits.rfl
  rintro seen ⟨hnd, hbd⟩ KL hKL
  repeat' (first | refine W.stop (id := 3) ?_ | refine W.seq fun K hK => ?_ | refine W.block ?_ | ((first | refine wR ?_ | refine wD ?_ | refine W.skip ?_ | refine W.exit ?_ | refine W.ret (Post.ret ?_) | refine aP ?_ | refine aF ?_ | refine aL ?_ | refine aU ?_ | refine aM ?_ | refine aN ?_ | refine aR ?_); simp only [go_sem, reduceCtorEq]) | refine wT ?_ | refine wF ?_ | refine wC (fun h => ?_) (fun h => ?_) | refine iK ?_ | refine aI2 ?_ | (refine hK _ ?_; clear hK K) | clear hK K)
  refine Stop.out ?_
  refine W.nextReg rfl rfl rfl rfl rfl rfl rfl rfl rfl rfl (fun j e he hj => ?_) (fun hall => ?_)
  · simp only [ezA, List.getElem?_map, Option.map_eq_some_iff] at he
    obtain ⟨d, hd, rfl⟩ := he
    have hjl := (List.getElem?_eq_some_iff.1 hd).1
    have hn2 : (seen ++ [j]).Nodup := List.nodup_append.2 ⟨hnd, by simp, fun x hx y hy => by simp at hy; subst hy; exact fun e => hj (e ▸ hx)⟩
    have hb2 : ∀ i ∈ seen ++ [j], i < M.length := fun i hi => by
      rcases List.mem_append.1 hi with h | h
      · exact hbd i h
      · simp at h; omega
    have hsl := seen_le hn2 hb2
    have hsa : (seen ++ [j]).length = seen.length + 1 := by simp
    have hed : (ezA M)[j]? = some (kyV d.k, true, enA d) := by simp [ezA, hd]
    have hc := c60 d
    have hsz := selE_len M seen
    have hst := selE_step (seen := seen) hd
    clear c60 c84
    simp only [enT, enA, List.map] at hc
    simp only [go_sem]
    repeat' (first | refine W.seq fun K hK => ?_ | refine W.block ?_ | ((first | refine wR ?_ | refine wD ?_ | refine W.skip ?_ | refine W.exit ?_ | refine W.ret (Post.ret ?_) | refine aP ?_ | refine aF ?_ | refine aL ?_ | refine aU ?_ | refine aM ?_ | refine aN ?_ | refine aR ?_); simp only [go_sem, reduceCtorEq]) | refine wT ?_ | refine wF ?_ | refine wC (fun h => ?_) (fun h => ?_) | refine iK ?_ | refine aI2 ?_ | (refine hK _ ?_; clear hK K) | clear hK K)
    refine AX.entry rfl rfl rfl (j := j) (by simp) hed rfl rfl ?_
    simp only [go_sem, enA, imL]
    cases hd0 : d.emp
    · rw [hd0] at hc hst
      repeat' (first | refine W.seq fun K hK => ?_ | refine W.block ?_ | ((first | refine wR ?_ | refine wD ?_ | refine W.skip ?_ | refine W.exit ?_ | refine W.ret (Post.ret ?_) | refine aP ?_ | refine aF ?_ | refine aL ?_ | refine aU (hnn := by simp only [go_sem, reduceCtorEq, imR_len, List.length_map]) ?_ | refine aM ?_ | refine aN ?_ | refine aR ?_); simp only [go_sem, reduceCtorEq, imR_len, List.length_map]) | refine wT ?_ | refine wF ?_ | refine wC (fun h => ?_) (fun h => ?_) | refine iK ?_ | refine aI2 ?_ | (refine hK _ ?_; clear hK K) | clear hK K)
      refine hKL.to (seen ++ [j]) ⟨hn2, hb2⟩ (by omega) (Fits.fit [(0, 0), (12, 1)] [3, 7] 2 rfl rfl ?_)
      have hsn := imR_sn7 (selE M seen) d
      simp only [enA, List.map] at hsn
      simp only [go_sem, hst, Bool.false_eq_true, if_false, hsn, enA]
      exact Fits.rfl
    · rw [hd0] at hc hst
      repeat' (first | refine W.seq fun K hK => ?_ | refine W.block ?_ | ((first | refine wR ?_ | refine wD ?_ | refine W.skip ?_ | refine W.exit ?_ | refine W.ret (Post.ret ?_) | refine aP ?_ | refine aF ?_ | refine aL ?_ | refine aU ?_ | refine aM ?_ | refine aN ?_ | refine aR ?_); simp only [go_sem, reduceCtorEq]) | refine wT ?_ | refine wF ?_ | refine wC (fun h => ?_) (fun h => ?_) | refine iK ?_ | refine aI2 ?_ | (refine hK _ ?_; clear hK K) | clear hK K)
      refine hKL.to (seen ++ [j]) ⟨hn2, hb2⟩ (by omega) (Fits.fit [(0, 0), (1, 1)] [3, 7] 2 rfl rfl ?_)
      simp only [go_sem, hst, if_true, List.append_nil, enA]
      exact Fits.rfl
  · simp only [go_sem]
    clear hKL
    have hall : ∀ j, j < M.length → j ∈ seen := fun j hj => hall j (by simpa [ezA] using hj)
    have hp := selE_perm hnd hbd hall
    repeat' (first | refine W.seq fun K hK => ?_ | refine W.block ?_ | ((first | refine wR ?_ | refine wD ?_ | refine W.skip ?_ | refine W.exit ?_ | refine W.ret (Post.ret ?_) | refine aP ?_ | refine aF ?_ | refine aL ?_ | refine aU ?_ | refine aM ?_ | refine aN ?_ | refine aR ?_); simp only [go_sem, reduceCtorEq]) | refine wT ?_ | refine wF ?_ | refine wC (fun h => ?_) (fun h => ?_) | refine iK ?_ | refine aI2 ?_ | (refine hK _ ?_; clear hK K) | clear hK K)
    refine AX.sort (zs := tblE M) (cm := cmpE) enA rfl rfl rfl rfl rfl rfl tE65 (by decide) c71 (fun x _ y _ => c84 x y) (cmpE_ord _) ((tblE_perm M).trans hp.symm) (fun zs' h1 h2 => tblE_uni hu (h1.trans hp) h2) rfl ?_
    simp only [go_sem]
    repeat' (first | refine W.seq fun K hK => ?_ | refine W.block ?_ | ((first | refine wR ?_ | refine wD ?_ | refine W.skip ?_ | refine W.exit ?_ | refine W.ret (Post.ret ?_) | refine aP ?_ | refine aF ?_ | refine aL ?_ | refine aU ?_ | refine aM ?_ | refine aN ?_ | refine aR ?_); simp only [go_sem, reduceCtorEq]) | refine wT ?_ | refine wF ?_ | refine wC (fun h => ?_) (fun h => ?_) | refine iK ?_ | refine aI2 ?_ | (refine hK _ ?_; clear hK K) | clear hK K)
end Go.Proofs.YthlimkmjobpjoaaGreat
namespace Go.Proofs.YthlimkmjobpjoaaGreat
open Go.RowKit Go.Exe
/-! ### sums of tables, totals, lists of ints -/
attribute [local irreducible] W AX Run RunD AStep AOp AOpX AStB AStH AStG Fits PCall GCall PostG Post Stop
def totW (t : List En) (n : Nat) : Int := (t.take n).foldl (fun m e => IntKind.i64.wrap (m + e.ti)) 0
theorem totW_step {t : List En} {i : Nat} {e : En} (h : t[i]? = some e) : totW t (i + 1) = IntKind.i64.wrap (totW t i + e.ti) := by
  simp [totW, List.take_add_one, h]
theorem total_c (t : List En) : PCall Tryz.prog 18 [tbT t] (ft (.int .i64 (totW t t.length))) := by
  refine PCall.intro (nt := 18) (rs := [.tmp 2]) Tryz.func18 rfl ⟨by kernel_rfl, by kernel_rfl, by kernel_rfl⟩ (by simp) ?_
  rintro ⟨P, w0, ok0, may, np, pblk⟩ rfl rfl
  refine W.lenIm 0 rfl fun hlen => ?_
  rw [List.length_map, maxLen_is] at hlen
  repeat' (first | refine W.seq fun K hK => ?_ | refine W.block ?_ | ((first | refine wR ?_ | refine wD ?_ | refine W.skip ?_ | refine W.exit ?_ | refine W.ret (Post.ret ?_) | refine aP ?_ | refine aF ?_ | refine aL ?_ | refine aU (hnn := by simp only [go_sem, reduceCtorEq, List.length_map]) ?_ | refine aL ?_ | refine aU (hnn := by simp only [go_sem, reduceCtorEq, List.length_map]) ?_ | refine aM ?_ | refine aN ?_ | refine aR ?_); simp only [go_sem, reduceCtorEq, List.length_map]) | refine wT ?_ | refine wF ?_ | refine wC (fun h => ?_) (fun h => ?_) | refine iK ?_ | refine aI2 ?_ | (refine hK _ ?_; clear hK K) | clear hK K)
  refine W.loopF (T := fun i : Nat => { t := [(3, ft (.int .i64 (totW t i))), (6, tbT t), (7, ft (.int .i64 t.length)), (8, ft (.int .i64 (i : Nat)))], h := [], nx := 0, ex := [], nt := 18 })
    (Inv := fun i => i ≤ t.length) (μ := fun i => t.length - i) (x0 := 0) (Fits.fit [] [3, 6, 7, 8] 0 rfl rfl ?_) (Nat.zero_le _) ?_
  · simp only [go_sem]
    exact Fits.rfl
  rintro i hi KL hKL
  by_cases hlt : i < t.length
  · obtain ⟨e, he, hm, hd⟩ := drop_at hlt
    have e1 : decide ((i : Int) < t.length) = true := by simp; omega
    have hw := w64s i (by omega)
    have hst := totW_step he
    repeat' (first | refine W.seq fun K hK => ?_ | refine W.block ?_ | ((first | refine wR ?_ | refine wD ?_ | refine W.skip ?_ | refine W.exit ?_ | refine W.ret (Post.ret ?_) | refine aP ?_ | refine aF ?_ | refine aL ?_ | refine aU (hnn := by simp only [go_sem, reduceCtorEq, List.getElem?_map, he, enA, e1, hw]) ?_ | refine aL ?_ | refine aU (hnn := by simp only [go_sem, reduceCtorEq, List.getElem?_map, he, enA, e1, hw]) ?_ | refine aM ?_ | refine aN ?_ | refine aR ?_); simp only [go_sem, reduceCtorEq, List.getElem?_map, he, enA, e1, hw]) | refine wT ?_ | refine wF ?_ | refine wC (fun h => ?_) (fun h => ?_) | refine iK ?_ | refine aI2 ?_ | (refine hK _ ?_; clear hK K) | clear hK K)
    refine hKL.to (i + 1) (by omega) (by omega) (Fits.fit [] [3, 6, 7, 8] 0 rfl rfl ?_)
    simp only [go_sem, hst]
    exact Fits.rfl
  obtain rfl : i = t.length := by omega
  have e1 : decide ((t.length : Int) < t.length) = false := by simp
  clear hKL
  repeat' (first | refine W.seq fun K hK => ?_ | refine W.block ?_ | ((first | refine wR ?_ | refine wD ?_ | refine W.skip ?_ | refine W.exit ?_ | refine W.ret (Post.ret ?_) | refine aP ?_ | refine aF ?_ | refine aL ?_ | refine aU (hnn := by simp only [go_sem, reduceCtorEq, e1]) ?_ | refine aL ?_ | refine aU (hnn := by simp only [go_sem, reduceCtorEq, e1]) ?_ | refine aM ?_ | refine aN ?_ | refine aR ?_); simp only [go_sem, reduceCtorEq, e1]) | refine wT ?_ | refine wF ?_ | refine wC (fun h => ?_) (fun h => ?_) | refine iK ?_ | refine aI2 ?_ | (refine hK _ ?_; clear hK K) | clear hK K)
theorem ints_c (a b : List Int) : PCall Tryz.prog 21 [intsT a, intsT b] (ft (.bool (decide (a = b)))) := by
  by_cases hl : a.length = b.length
  · have e0 : (((a.length : Nat) : Int) != ((b.length : Nat) : Int)) = false := by simp [hl]
    refine PCall.intro (nt := 26) (rs := [.tmp 4]) Tryz.func21 rfl ⟨by kernel_rfl, by kernel_rfl, by kernel_rfl⟩ (by simp) ?_
    rintro ⟨P, w0, ok0, may, np, pblk⟩ rfl rfl
    refine W.lenIm 0 rfl fun hlen => ?_
    rw [List.length_map, maxLen_is] at hlen
    repeat' (first | refine W.seq fun K hK => ?_ | refine W.block ?_ | ((first | refine wR ?_ | refine wD ?_ | refine W.skip ?_ | refine W.exit ?_ | refine W.ret (Post.ret ?_) | refine aP ?_ | refine aF ?_ | refine aL ?_ | refine aU (hnn := by simp only [go_sem, reduceCtorEq, List.length_map, e0]) ?_ | refine aL ?_ | refine aU (hnn := by simp only [go_sem, reduceCtorEq, List.length_map, e0]) ?_ | refine aM ?_ | refine aN ?_ | refine aR ?_); simp only [go_sem, reduceCtorEq, List.length_map, e0]) | refine wT ?_ | refine wF ?_ | refine wC (fun h => ?_) (fun h => ?_) | refine iK ?_ | refine aI2 ?_ | (refine hK _ ?_; clear hK K) | clear hK K)
    refine W.loopF (T := fun i : Nat => { t := [(0, intsT a), (1, intsT b), (5, ft (.int .i64 (i : Nat)))], h := [], nx := 0, ex := [], nt := 26 })
      (Inv := fun i => i ≤ a.length ∧ a.take i = b.take i) (μ := fun i => a.length - i) (x0 := 0) (Fits.fit [] [0, 1, 5] 0 rfl rfl ?_) ⟨Nat.zero_le _, rfl⟩ ?_
    · simp only [go_sem]
      exact Fits.rfl
    rintro i ⟨hi, hinv⟩ KL hKL
    by_cases hlt : i < a.length
    · obtain ⟨x, hx, hm, hd⟩ := drop_at hlt
      obtain ⟨y, hy, hm2, hd2⟩ := drop_at (show i < b.length by omega)
      have e1 : decide ((i : Int) < a.length) = true := by simp; omega
      have e2 : decide (i < a.length) = true := by simp; omega
      have e3 : decide (i < b.length) = true := by simp; omega
      have hw := w64s i (by omega)
      cases hc : (x != y)
      · have hxy : x = y := by simpa using hc
        repeat' (first | refine W.seq fun K hK => ?_ | refine W.block ?_ | ((first | refine wR ?_ | refine wD ?_ | refine W.skip ?_ | refine W.exit ?_ | refine W.ret (Post.ret ?_) | refine aP ?_ | refine aF ?_ | refine aL ?_ | refine aU (hnn := by simp only [go_sem, reduceCtorEq, List.getElem?_map, hx, hy, iA, e1, e2, e3, hw, hc, List.length_map]) ?_ | refine aL ?_ | refine aU (hnn := by simp only [go_sem, reduceCtorEq, List.getElem?_map, hx, hy, iA, e1, e2, e3, hw, hc, List.length_map]) ?_ | refine aM ?_ | refine aN ?_ | refine aR ?_); simp only [go_sem, reduceCtorEq, List.getElem?_map, hx, hy, iA, e1, e2, e3, hw, hc, List.length_map]) | refine wT ?_ | refine wF ?_ | refine wC (fun h => ?_) (fun h => ?_) | refine iK ?_ | refine aI2 ?_ | (refine hK _ ?_; clear hK K) | clear hK K)
        refine hKL.to (i + 1) ⟨by omega, by rw [List.take_add_one, List.take_add_one, hx, hy, hinv, hxy]⟩ (by omega) (Fits.fit [] [0, 1, 5] 0 rfl rfl ?_)
        simp only [go_sem, iA]
        exact Fits.rfl
      · have hno : decide (a = b) = false := by
          rw [decide_eq_false_iff_not]
          rintro rfl
          rw [hx] at hy
          cases hy
          simp at hc
        clear hKL
        rw [hno]
        repeat' (first | refine W.seq fun K hK => ?_ | refine W.block ?_ | ((first | refine wR ?_ | refine wD ?_ | refine W.skip ?_ | refine W.exit ?_ | refine W.ret (Post.ret ?_) | refine aP ?_ | refine aF ?_ | refine aL ?_ | refine aU (hnn := by simp only [go_sem, reduceCtorEq, List.getElem?_map, hx, hy, iA, e1, e2, e3, hw, hc, List.length_map]) ?_ | refine aL ?_ | refine aU (hnn := by simp only [go_sem, reduceCtorEq, List.getElem?_map, hx, hy, iA, e1, e2, e3, hw, hc, List.length_map]) ?_ | refine aM ?_ | refine aN ?_ | refine aR ?_); simp only [go_sem, reduceCtorEq, List.getElem?_map, hx, hy, iA, e1, e2, e3, hw, hc, List.length_map]) | refine wT ?_ | refine wF ?_ | refine wC (fun h => ?_) (fun h => ?_) | refine iK ?_ | refine aI2 ?_ | (refine hK _ ?_; clear hK K) | clear hK K)
    · obtain rfl : i = a.length := by omega
      have e1 : decide ((a.length : Int) < a.length) = false := by simp
      have hyes : decide (a = b) = true := by
        rw [decide_eq_true_eq]
        rw [List.take_length, hl, List.take_length] at hinv
        exact hinv
      clear hKL
      repeat' (first | refine W.seq fun K hK => ?_ | refine W.block ?_ | ((first | refine wR ?_ | refine wD ?_ | refine W.skip ?_ | refine W.exit ?_ | refine W.ret (Post.ret ?_) | refine aP ?_ | refine aF ?_ | refine aL ?_ | refine aU (hnn := by simp only [go_sem, reduceCtorEq, List.length_map, e1]) ?_ | refine aL ?_ | refine aU (hnn := by simp only [go_sem, reduceCtorEq, List.length_map, e1]) ?_ | refine aM ?_ | refine aN ?_ | refine aR ?_); simp only [go_sem, reduceCtorEq, List.length_map, e1]) | refine wT ?_ | refine wF ?_ | refine wC (fun h => ?_) (fun h => ?_) | refine iK ?_ | refine aI2 ?_ | (refine hK _ ?_; clear hK K) | clear hK K)
      rw [hyes]
  · have e0 : (((a.length : Nat) : Int) != ((b.length : Nat) : Int)) = true := by simp; omega
    have hno : decide (a = b) = false := by
      rw [decide_eq_false_iff_not]
      exact fun e => hl (by rw [e])
    rw [hno]
    refine PCall.intro (nt := 26) (rs := [.tmp 4]) Tryz.func21 rfl ⟨by kernel_rfl, by kernel_rfl, by kernel_rfl⟩ (by simp) ?_
    rintro ⟨P, w0, ok0, may, np, pblk⟩ rfl rfl
    repeat' (first | refine W.seq fun K hK => ?_ | refine W.block ?_ | ((first | refine wR ?_ | refine wD ?_ | refine W.skip ?_ | refine W.exit ?_ | refine W.ret (Post.ret ?_) | refine aP ?_ | refine aF ?_ | refine aL ?_ | refine aU (hnn := by simp only [go_sem, reduceCtorEq, List.length_map, e0]) ?_ | refine aL ?_ | refine aU (hnn := by simp only [go_sem, reduceCtorEq, List.length_map, e0]) ?_ | refine aM ?_ | refine aN ?_ | refine aR ?_); simp only [go_sem, reduceCtorEq, List.length_map, e0]) | refine wT ?_ | refine wF ?_ | refine wC (fun h => ?_) (fun h => ?_) | refine iK ?_ | refine aI2 ?_ | (refine hK _ ?_; clear hK K) | clear hK K)
end Go.Proofs.YthlimkmjobpjoaaGreat
namespace Go.Proofs.YthlimkmjobpjoaaGreat
open Go.RowKit Go.Exe
/-! ### attribution.Of -/
def kyS (s : Spn) : Ky := ⟨s.sv, s.ve, s.op⟩
def tmOf (q : List Of) (k : Int) : Int := (getO (offM q) k).getD 0
def attE (l : List Spn) (q : List Of) (s : Spn) : En := ⟨kyS s, tmOf q s.id, 1, if s.er then 1 else 0, if orig l s then 1 else 0⟩
def attL (l : List Spn) (q : List Of) (B : List Int) (m : List Spn) : List En := (m.filter fun s => B.contains s.id).map (attE l q)
theorem attL_step {l : List Spn} {q : List Of} {B : List Int} {i : Nat} {s : Spn} (h : l[i]? = some s) : sumW [] (attL l q B (l.take (i + 1))) 1 = if B.contains s.id then addW (sumW [] (attL l q B (l.take i)) 1) (kyS s) (attE l q s).nm 1 else sumW [] (attL l q B (l.take i)) 1 := by
  unfold attL
  rw [List.take_add_one, h, List.filter_append]
  cases h2 : B.contains s.id
  · have : List.filter (fun s => B.contains s.id) (some s).toList = [] := by simp only [Option.toList, List.filter_cons, h2, List.filter_nil, Bool.false_eq_true, if_false]
    rw [this, List.append_nil, if_neg (by simp)]
  · have : List.filter (fun s => B.contains s.id) (some s).toList = [s] := by simp only [Option.toList, List.filter_cons, h2, List.filter_nil, if_true]
    rw [this, List.map_append, if_pos rfl]
    simp [sumW, attE]
theorem offM_step {q : List Of} {i : Nat} {x : Of} (h : q[i]? = some x) : offM (q.take (i + 1)) = putO (offM (q.take i)) x := by
  simp [offM, List.take_add_one, h]
abbrev tabT (T : List En) (e : Int) : TV := .t [(false, [.im (.sl 65 (T.map enA))]), (false, [Exe.fl (.int .i64 e)])]
attribute [local irreducible] W AX Run RunD AStep AOp AOpX AStB AStH AStG Fits PCall GCall PostG Post Stop
theorem of16_ok (c71 : SortC Tryz.prog 71 7) (l : List Spn) (v : List Of) (root : Int) (q : List Of) (hd : Spn) (h0 : l[0]? = some hd) (tr : Tr) (B : List Int) (cx : PCall Tryz.prog 19 [spsT l, ofsT v, ft (.int .i64 root)] (exT 0 q))
    (cb : PCall Tryz.prog 43 [spsT l, ft (.int .i64 hd.tr)] (trT tr)) (cs : PCall Tryz.prog 44 [trT tr, ft (.int .i64 root)] (intsT B)) (hq : ∀ x ∈ q, I64 x.1) (hI : ∀ s ∈ l, I64 s.id) (hKy : ∀ s ∈ l, okK (kyS s)) (hl : l.length ≤ 1000000) :
    PCall Tryz.prog 16 [spsT l, ofsT v, ft (.int .i64 root)] (tabT (tblE (sumW [] (attL l q B l) 1)) 0) := by
  have hu0 : Unq ([] : List En) := List.Pairwise.nil
  have hkq : ∀ x ∈ q, KeyOk Tryz.prog 3 (.int .i64 x.1) := fun x hx => koI (hq x hx)
  have hks : ∀ s ∈ l, KeyOk Tryz.prog 3 (.int .i64 s.id) := fun s hs => koI (hI s hs)
  have hl0 : 0 < l.length := by
    rcases l with _ | ⟨x, r⟩
    · cases h0
    · simp
  have f0 : decide (0 < l.length) = true := by simp [hl0]
  have co := fun s => origin_c l s
  have cn := number_c
  refine PCall.intro (nt := 83) (rs := [.tmp 6, .tmp 7]) Tryz.func16 rfl ⟨by kernel_rfl, by kernel_rfl, by kernel_rfl⟩ (by simp) ?_
  rintro ⟨P, w0, ok0, may, np, pblk⟩ rfl rfl
  refine W.lenB 1 rfl tE85 fun hl1 hl2 => ?_
  rw [List.length_map] at hl1
  repeat' (first | refine W.seq fun K hK => ?_ | refine W.block ?_ | ((first | refine wR ?_ | refine wD ?_ | refine W.skip ?_ | refine W.exit ?_ | refine W.ret (Post.ret ?_) | refine aP ?_ | refine aF ?_ | refine aL ?_ | refine aU (hnn := by simp only [go_sem, reduceCtorEq, spA]) ?_ | refine aL ?_ | refine aU (hnn := by simp only [go_sem, reduceCtorEq, spA]) ?_ | refine aM ?_ | refine aN ?_ | refine aR ?_); simp only [go_sem, reduceCtorEq, spA]) | refine wT ?_ | refine wF ?_ | refine wC (fun h => ?_) (fun h => ?_) | refine iK ?_ | refine aI2 ?_ | (refine hK _ ?_; clear hK K) | clear hK K)
  refine W.lenB 8 rfl tE96 fun hq1 hq2 => ?_
  rw [List.length_map] at hq1 hq2
  refine W.loopF (T := fun i : Nat => { t := [(0, spsT l), (2, ft (.int .i64 root)), (10, .c (.mp 0)), (28, .c (.im (.sl 96 (q.map ofA)))), (29, ft (.int .i64 q.length)), (30, ft (.int .i64 (i : Nat)))], h := [(0, .map 3 (ofE (offM (q.take i))))], nx := 1, ex := [], nt := 83 })
    (Inv := fun i => i ≤ q.length) (μ := fun i => q.length - i) (x0 := 0) (Fits.fit [(13, 0)] [0, 2, 10, 28, 29, 30] 1 rfl rfl ?_) (Nat.zero_le _) ?_
  · simp only [go_sem, List.take_zero, offM, List.foldl_nil, ofE, List.map_nil, List.length_map]
    exact Fits.rfl
  rintro i hi KL hKL
  by_cases hlt : i < q.length
  · obtain ⟨x, hx, hm, hd⟩ := drop_at hlt
    have e1 : decide ((i : Int) < q.length) = true := by simp; omega
    have hw := w64s i (by rw [maxLen_is] at hq1; omega)
    have hko := hkq x hm
    have hat := offM_step hx
    have hput := ofE_put (offM (q.take i)) x.1 x.2
    have hno := ofE_mget x.1 (offM (q.take i))
    have hcs : mget (.int .i64 x.1) (ofE (offM (q.take i))) = none ∨ ∃ n, mget (.int .i64 x.1) (ofE (offM (q.take i))) = some (false, [fl (.int .i64 n)]) := by
      rw [hno]
      cases getO (offM (q.take i)) x.1
      · exact .inl rfl
      · exact .inr ⟨_, rfl⟩
    clear hno co cn hkq hks cx cb cs
    rcases hcs with hno | ⟨n, hno⟩
    all_goals
      repeat' (first | refine W.seq fun K hK => ?_ | refine W.block ?_ | ((first | refine wR ?_ | refine wD ?_ | refine W.skip ?_ | refine W.exit ?_ | refine W.ret (Post.ret ?_) | refine aP ?_ | refine aF ?_ | refine aL ?_ | refine aU (hnn := by simp only [go_sem, reduceCtorEq, List.getElem?_map, hx, ofA, e1, hw, hput, hno]) ?_ | refine aL ?_ | refine aU (hnn := by simp only [go_sem, reduceCtorEq, List.getElem?_map, hx, ofA, e1, hw, hput, hno]) ?_ | refine aM ?_ | refine aN ?_ | refine aR ?_); simp only [go_sem, reduceCtorEq, List.getElem?_map, hx, ofA, e1, hw, hput, hno]) | refine wT ?_ | refine wF ?_ | refine wC (fun h => ?_) (fun h => ?_) | refine iK ?_ | refine aI2 ?_ | (refine hK _ ?_; clear hK K) | clear hK K)
    all_goals refine hKL.to (i + 1) (by omega) (by omega) (Fits.fit [(0, 0)] [0, 2, 10, 28, 29, 30] 1 rfl rfl ?_)
    all_goals simp only [go_sem, rnEs_ofE, hat]
    all_goals exact Fits.rfl
  obtain rfl : i = q.length := by omega
  have e1 : decide ((q.length : Int) < q.length) = false := by simp
  clear hKL hkq cx
  rw [List.take_length]
  obtain ⟨m0, hm0⟩ : ∃ m, m = offM q := ⟨_, rfl⟩
  rw [← hm0]
  repeat' (first | refine W.seq fun K hK => ?_ | refine W.block ?_ | ((first | refine wR ?_ | refine wD ?_ | refine W.skip ?_ | refine W.exit ?_ | refine W.ret (Post.ret ?_) | refine aP ?_ | refine aF ?_ | refine aL ?_ | refine aU (hnn := by simp only [go_sem, reduceCtorEq, e1, List.getElem?_map, h0, spA, f0, List.length_map]) ?_ | refine aL ?_ | refine aU (hnn := by simp only [go_sem, reduceCtorEq, e1, List.getElem?_map, h0, spA, f0, List.length_map]) ?_ | refine aM ?_ | refine aN ?_ | refine aR ?_); simp only [go_sem, reduceCtorEq, e1, List.getElem?_map, h0, spA, f0, List.length_map]) | refine wT ?_ | refine wF ?_ | refine wC (fun h => ?_) (fun h => ?_) | refine iK ?_ | refine aI2 ?_ | (refine hK _ ?_; clear hK K) | clear hK K)
  refine W.loopF (T := fun i : Nat => { t := [(0, spsT l), (10, .c (.mp 0)), (13, intsT B), (14, .c (.mp 1)), (49, spsT l), (50, ft (.int .i64 l.length)), (51, ft (.int .i64 (i : Nat)))], h := [(0, .map 3 (ofE m0)), (1, .map 63 (ezE (sumW [] (attL l q B (l.take i)) 1)))], nx := 2, ex := [], nt := 83 })
    (Inv := fun i => i ≤ l.length) (μ := fun i => l.length - i) (x0 := 0) (Fits.fit [(0, 0), (11, 1)] [0, 10, 13, 14, 49, 50, 51] 2 rfl rfl ?_) (Nat.zero_le _) ?_
  · simp only [go_sem, List.take_zero, rnEs_ofE]
    exact Fits.rfl
  clear cb cs
  rintro i hi KL hKL
  by_cases hlt : i < l.length
  · obtain ⟨s, hs, hm, hd2⟩ := drop_at hlt
    have e1 : decide ((i : Int) < l.length) = true := by simp; omega
    have hw := w64s i (by omega)
    have hko := hks s hm
    have hst := attL_step (q := q) (B := B) hs
    have hc := contains_c B s.id
    have c1 := co s
    simp only [spT, spA, List.map] at c1
    have c2 := cn s.er
    have c3 := cn (orig l s)
    clear co cn
    cases hb : B.contains s.id
    · rw [hb] at hc hst
      repeat' (first | refine W.seq fun K hK => ?_ | refine W.block ?_ | ((first | refine wR ?_ | refine wD ?_ | refine W.skip ?_ | refine W.exit ?_ | refine W.ret (Post.ret ?_) | refine aP ?_ | refine aF ?_ | refine aL ?_ | refine aU (hnn := by simp only [go_sem, reduceCtorEq, List.getElem?_map, hs, spA, e1, hw]) ?_ | refine aL ?_ | refine aU (hnn := by simp only [go_sem, reduceCtorEq, List.getElem?_map, hs, spA, e1, hw]) ?_ | refine aM ?_ | refine aN ?_ | refine aR ?_); simp only [go_sem, reduceCtorEq, List.getElem?_map, hs, spA, e1, hw]) | refine wT ?_ | refine wF ?_ | refine wC (fun h => ?_) (fun h => ?_) | refine iK ?_ | refine aI2 ?_ | (refine hK _ ?_; clear hK K) | clear hK K)
      refine hKL.to (i + 1) (by omega) (by omega) (Fits.fit [(0, 0), (1, 1)] [0, 10, 13, 14, 49, 50, 51] 2 rfl rfl ?_)
      simp only [go_sem, hst, rnEs_ofE, rnEs_ezE, Bool.false_eq_true, if_false]
      exact Fits.rfl
    · rw [hb] at hc hst
      have hg := ofE_mget s.id m0
      have ha := add_c (sumW [] (attL l q B (l.take i)) 1) (sumW_unq hu0) (kyS s) (hKy s hm) ⟨⟨ByteArray.empty, ByteArray.empty, ByteArray.empty⟩, tmOf q s.id, 1, if s.er then 1 else 0, if orig l s then 1 else 0⟩ 1
      simp only [kyT, enT, kyA, enA, kyS, List.map] at ha
      cases hgo : getO m0 s.id with
      | none =>
        have ht : tmOf q s.id = 0 := by unfold tmOf; rw [← hm0, hgo]; rfl
        rw [hgo, Option.map_none] at hg
        rw [ht] at ha
        repeat' (first | refine W.seq fun K hK => ?_ | refine W.block ?_ | ((first | refine wR ?_ | refine wD ?_ | refine W.skip ?_ | refine W.exit ?_ | refine W.ret (Post.ret ?_) | refine aP ?_ | refine aF ?_ | refine aL ?_ | refine aU (hnn := by simp only [go_sem, reduceCtorEq, List.getElem?_map, hs, spA, e1, hw, hg]) ?_ | refine aL ?_ | refine aU (hnn := by simp only [go_sem, reduceCtorEq, List.getElem?_map, hs, spA, e1, hw, hg]) ?_ | refine aM ?_ | refine aN ?_ | refine aR ?_); simp only [go_sem, reduceCtorEq, List.getElem?_map, hs, spA, e1, hw, hg]) | refine wT ?_ | refine wF ?_ | refine wC (fun h => ?_) (fun h => ?_) | refine iK ?_ | refine aI2 ?_ | (refine hK _ ?_; clear hK K) | clear hK K)
        refine AX.gcall [1] rfl rfl (ha) (by simp only [go_sem, reduceCtorEq, rnEs_ezE, rnEs_ofE]) (by simp only [go_sem, reduceCtorEq, rnEs_ezE, rnEs_ofE]) rfl rfl (by simp only [go_sem, Obj.owns]) rfl (by simp only [go_sem, Obj.owns]) rfl rfl ?_
        simp only [go_sem, reduceCtorEq, rnEs_ezE, rnEs_ofE]
        repeat' (first | refine W.seq fun K hK => ?_ | refine W.block ?_ | ((first | refine wR ?_ | refine wD ?_ | refine W.skip ?_ | refine W.exit ?_ | refine W.ret (Post.ret ?_) | refine aP ?_ | refine aF ?_ | refine aL ?_ | refine aU (hnn := by simp only [go_sem, reduceCtorEq, hw]) ?_ | refine aL ?_ | refine aU (hnn := by simp only [go_sem, reduceCtorEq, hw]) ?_ | refine aM ?_ | refine aN ?_ | refine aR ?_); simp only [go_sem, reduceCtorEq, hw]) | refine wT ?_ | refine wF ?_ | refine wC (fun h => ?_) (fun h => ?_) | refine iK ?_ | refine aI2 ?_ | (refine hK _ ?_; clear hK K) | clear hK K)
        refine hKL.to (i + 1) (by omega) (by omega) (Fits.fit [(0, 0), (1, 1)] [0, 10, 13, 14, 49, 50, 51] 2 rfl rfl ?_)
        simp only [go_sem, hst, rnEs_ofE, rnEs_ezE, if_true, kyS, attE, En.nm, ht]
        exact Fits.rfl
      | some n =>
        have ht : tmOf q s.id = n := by unfold tmOf; rw [← hm0, hgo]; rfl
        rw [hgo, Option.map_some] at hg
        rw [ht] at ha
        repeat' (first | refine W.seq fun K hK => ?_ | refine W.block ?_ | ((first | refine wR ?_ | refine wD ?_ | refine W.skip ?_ | refine W.exit ?_ | refine W.ret (Post.ret ?_) | refine aP ?_ | refine aF ?_ | refine aL ?_ | refine aU (hnn := by simp only [go_sem, reduceCtorEq, List.getElem?_map, hs, spA, e1, hw, hg]) ?_ | refine aL ?_ | refine aU (hnn := by simp only [go_sem, reduceCtorEq, List.getElem?_map, hs, spA, e1, hw, hg]) ?_ | refine aM ?_ | refine aN ?_ | refine aR ?_); simp only [go_sem, reduceCtorEq, List.getElem?_map, hs, spA, e1, hw, hg]) | refine wT ?_ | refine wF ?_ | refine wC (fun h => ?_) (fun h => ?_) | refine iK ?_ | refine aI2 ?_ | (refine hK _ ?_; clear hK K) | clear hK K)
        refine AX.gcall [1] rfl rfl (ha) (by simp only [go_sem, reduceCtorEq, rnEs_ezE, rnEs_ofE]) (by simp only [go_sem, reduceCtorEq, rnEs_ezE, rnEs_ofE]) rfl rfl (by simp only [go_sem, Obj.owns]) rfl (by simp only [go_sem, Obj.owns]) rfl rfl ?_
        simp only [go_sem, reduceCtorEq, rnEs_ezE, rnEs_ofE]
        repeat' (first | refine W.seq fun K hK => ?_ | refine W.block ?_ | ((first | refine wR ?_ | refine wD ?_ | refine W.skip ?_ | refine W.exit ?_ | refine W.ret (Post.ret ?_) | refine aP ?_ | refine aF ?_ | refine aL ?_ | refine aU (hnn := by simp only [go_sem, reduceCtorEq, hw]) ?_ | refine aL ?_ | refine aU (hnn := by simp only [go_sem, reduceCtorEq, hw]) ?_ | refine aM ?_ | refine aN ?_ | refine aR ?_); simp only [go_sem, reduceCtorEq, hw]) | refine wT ?_ | refine wF ?_ | refine wC (fun h => ?_) (fun h => ?_) | refine iK ?_ | refine aI2 ?_ | (refine hK _ ?_; clear hK K) | clear hK K)
        refine hKL.to (i + 1) (by omega) (by omega) (Fits.fit [(0, 0), (1, 1)] [0, 10, 13, 14, 49, 50, 51] 2 rfl rfl ?_)
        simp only [go_sem, hst, rnEs_ofE, rnEs_ezE, if_true, kyS, attE, En.nm, ht]
        exact Fits.rfl
  obtain rfl : i = l.length := by omega
  have e2 : decide ((l.length : Int) < l.length) = false := by simp
  clear hKL co cn
  rw [List.take_length]
  have ct := table_c c71 (sumW [] (attL l q B l) 1) (sumW_unq hu0) (by
    have h1 := sumW_len (attL l q B l) 1 []
    have h2 : (attL l q B l).length ≤ l.length := by unfold attL; rw [List.length_map]; exact List.length_filter_le _ _
    simp only [List.length_nil] at h1
    omega)
  repeat' (first | refine W.stop (id := 18) ?_ | refine W.seq fun K hK => ?_ | refine W.block ?_ | ((first | refine wR ?_ | refine wD ?_ | refine W.skip ?_ | refine W.exit ?_ | refine W.ret (Post.ret ?_) | refine aP ?_ | refine aF ?_ | refine aL ?_ | refine aU (hnn := by simp only [go_sem, reduceCtorEq, e2]) ?_ | refine aL ?_ | refine aU (hnn := by simp only [go_sem, reduceCtorEq, e2]) ?_ | refine aM ?_ | refine aN ?_ | refine aR ?_); simp only [go_sem, reduceCtorEq, e2]) | refine wT ?_ | refine wF ?_ | refine wC (fun h => ?_) (fun h => ?_) | refine iK ?_ | refine aI2 ?_ | (refine hK _ ?_; clear hK K) | clear hK K)
  refine Stop.out ?_
  refine W.fits (Fits.freezeM 1 rfl (ezE_close _) (Fits.seeT 14 1 rfl (.inr rfl) rfl Fits.rfl)) ?_
  simp only [go_sem]
  repeat' (first | refine W.seq fun K hK => ?_ | refine W.block ?_ | ((first | refine wR ?_ | refine wD ?_ | refine W.skip ?_ | refine W.exit ?_ | refine W.ret (Post.ret ?_) | refine aP ?_ | refine aF ?_ | refine aL ?_ | refine aU ?_ | refine aL ?_ | refine aU ?_ | refine aM ?_ | refine aN ?_ | refine aR ?_); simp only [go_sem, reduceCtorEq]) | refine wT ?_ | refine wF ?_ | refine wC (fun h => ?_) (fun h => ?_) | refine iK ?_ | refine aI2 ?_ | (refine hK _ ?_; clear hK K) | clear hK K)
end Go.Proofs.YthlimkmjobpjoaaGreat
namespace Go.Proofs.YthlimkmjobpjoaaGreat
open Go.RowKit Go.Exe
/-! ### Exclusive at a turned trace; known -/
def spN (s : Spn) : List AV := [.flat (.int .i64 s.tr), .flat (.int .i64 s.id), .flat (.int .i64 s.pa), .flat (.int .i64 s.rev), .flat (.int .i64 s.clk), .flat (.int .i64 s.kd), .flat (.string s.sv), .flat (.string s.ve), .flat (.string s.op), .flat (.int .i64 s.st), .flat (.int .i64 s.en), .flat (.bool s.er), .flat (.slice none 0 0), .flat (.slice none 0 0)]
theorem spN_le {s : Spn} (h1 : s.ats = []) (h2 : s.lks = []) : Al ALe (spN s) (spA s) := by
  unfold spN spA
  rw [h1, h2]
  exact Al.cons .rfl (Al.cons .rfl (Al.cons .rfl (Al.cons .rfl (Al.cons .rfl (Al.cons .rfl (Al.cons .rfl (Al.cons .rfl (Al.cons .rfl (Al.cons .rfl (Al.cons .rfl (Al.cons .rfl (Al.cons .nil (Al.cons .nil Al.nil)))))))))))))
def sWeb : ByteArray := ⟨#[119, 101, 98]⟩
def sApi : ByteArray := ⟨#[97, 112, 105]⟩
def sDb : ByteArray := ⟨#[100, 98]⟩
def sGet : ByteArray := ⟨#[103, 101, 116]⟩
def exS : List Spn := [⟨1, 1, 0, 0, 1, 3, sWeb, .empty, sGet, 0, 100, true, [], []⟩, ⟨1, 2, 1, 0, 1, 3, sApi, .empty, sGet, 10, 40, true, [], []⟩, ⟨1, 3, 1, 0, 1, 3, sDb, .empty, sGet, 30, 90, true, [], []⟩]
attribute [local irreducible] W AX Run RunD AStep AOp AOpX AStB AStH AStG Fits PCall GCall PostG Post Stop
theorem example_c : PCall Tryz.prog 40 [] (spsT exS) := by
  refine PCall.slLe (xs := exS.map spN) ?_ (Al.cons (spN_le rfl rfl) (Al.cons (spN_le rfl rfl) (Al.cons (spN_le rfl rfl) Al.nil)))
  refine PCall.intro (nt := 21) (rs := [.tmp 0]) Tryz.func40 rfl ⟨by kernel_rfl, by kernel_rfl, by kernel_rfl⟩ (by simp) ?_
  rintro ⟨P, w0, ok0, may, np, pblk⟩ rfl rfl
  repeat' (first | refine W.seq fun K hK => ?_ | refine W.block ?_ | ((first | refine wR ?_ | refine wD ?_ | refine W.skip ?_ | refine W.exit ?_ | refine W.ret (Post.ret ?_) | refine aP ?_ | refine aF ?_); simp only [go_sem, reduceCtorEq]) | refine wT ?_ | refine wF ?_ | refine wC (fun h => ?_) (fun h => ?_) | refine iK ?_ | refine aI2 ?_ | (refine hK _ ?_; clear hK K) | clear hK K)
  rfl
theorem ex_trn : Trn exS exS 1 := by
  refine ⟨List.Perm.refl _, by simp [exS], by simp [exS], ?_, by simp [exS], ?_, by simp [exS]⟩
  · simp [exS, I64]
  · have h0 : (1 : Int) ∈ lev exS 0 := by decide
    have h1 : (2 : Int) ∈ lev exS 1 := by decide
    have h2 : (3 : Int) ∈ lev exS 1 := by decide
    intro s hs
    simp only [exS, List.mem_cons, List.not_mem_nil, or_false] at hs
    rcases hs with rfl | rfl | rfl
    · exact ⟨0, h0⟩
    · exact ⟨1, h1⟩
    · exact ⟨1, h2⟩
def exV : List Of := [(1, 0)]
def exP : List Sg := [⟨(1, 1), ⟨1, 1, false⟩, ⟨1, 2, false⟩⟩, ⟨(1, 2), ⟨1, 2, false⟩, ⟨1, 3, false⟩⟩, ⟨(1, 3), ⟨1, 3, false⟩, ⟨1, 3, true⟩⟩, ⟨(1, 1), ⟨1, 3, true⟩, ⟨1, 1, true⟩⟩]
theorem ex_chkV : chkE exS exV = 0 := by decide
theorem ex_pV : pthM exS exV 1 = (0, exP) := by kernel_rfl
theorem ex_len : lenS exS exV exP = some [10, 20, 60, 10] := by kernel_rfl
def exQ : List Of := [(1, 20), (2, 20), (3, 60)]
theorem ex_ex : exF exP [10, 20, 60, 10] = exQ := by
  have h : exN exP [10, 20, 60, 10] exP.length = [(1, 20), (2, 20), (3, 60)] := by kernel_rfl
  have h2 : srtI [1, 2, 3] = [1, 2, 3] := List.mergeSort_of_pairwise (by decide)
  unfold exF
  rw [h]
  show (srtI [1, 2, 3]).map _ = _
  rw [h2]; rfl
/-- Exclusive, where the lengths of the path are known. -/
theorem Trn.c19 {l L : List Spn} {tr : Int} (h : Trn l L tr) (v : List Of) (c53 : SortC Tryz.prog 164 14) (c71 : SortI Tryz.prog 56) (g85 : GrowC Tryz.prog 107 3 1 8) (hv : ∀ x ∈ v, I64 x.1) (hn : (v.map (·.1)).Nodup) (hc : chkE l v = 0) (root : Int) (p : List Sg) (hp : pthM L v root = (0, p)) (hpI : ∀ x ∈ p, I64 x.sp.2) (Q : List Int) (hQ : lenS l v p = some Q) :
    PCall Tryz.prog 19 [spsT l, ofsT v, ft (.int .i64 root)] (exT 0 (exF p Q)) := by
  have c13 := h.c13 v c53 c71 g85 hv hn hc root
  rw [hp] at c13
  have c24 := lengths_c l v p (fun s hs => (h.intl s hs).2.2.2) hv
  have e24 : lenT l v p = .t [(false, [.im (.sl 3 (Q.map iA))]), (false, [fl (.int .i64 0)])] := by
    unfold lenT
    rw [if_neg (by rw [hc]; simp), hQ]
  rw [e24] at c24
  exact excl_c c71 l v root p Q (lenS_len hQ) hpI c13 c24
theorem treeOf_nds {t : Int} {L : List Spn} : (treeOf t L).nds = nodesD L L.length := rfl
theorem nds_srt {t : Int} {L : List Spn} (h : L.Pairwise fun a b => a.id < b.id) : (treeOf t L).nds.Pairwise fun a b => a.id < b.id := by
  rw [treeOf_nds]
  unfold nodesD
  rw [List.pairwise_map]
  exact h
theorem nds_ch {t : Int} {L : List Spn} (h : ∀ s ∈ L, I64 s.id) : ∀ n ∈ (treeOf t L).nds, ∀ c ∈ n.ch, I64 c := by
  intro n hn c hc
  rw [treeOf_nds] at hn
  unfold nodesD at hn
  obtain ⟨s, hs, rfl⟩ := List.mem_map.1 hn
  unfold kidsF kidsN at hc
  obtain ⟨x, hx, rfl⟩ := List.mem_map.1 hc
  exact h x (List.mem_of_mem_take (List.mem_filter.1 hx).1)
def subB (L : List Spn) (root : Int) : List Int := subF (nodesD L L.length) root
theorem Trn.c44 {l L : List Spn} {tr : Int} (h : Trn l L tr) (root : Int) (hr : I64 root) : PCall Tryz.prog 44 [trT (treeOf tr L), ft (.int .i64 root)] (intsT (subB L root)) :=
  subtree_c (treeOf tr L) (nds_srt h.srt) (nds_ch fun s hs => (h.int s hs).2.1) root hr (by
    rw [treeOf_nds]
    unfold nodesD
    rw [List.length_map]
    have := h.len
    omega)
theorem Trn.c43 {l L : List Spn} {tr : Int} (h : Trn l L tr) (c53 : SortC Tryz.prog 164 14) (c71 : SortI Tryz.prog 56) (g85 : GrowC Tryz.prog 107 3 1 8) : PCall Tryz.prog 43 [spsT l, ft (.int .i64 tr)] (trT (treeOf tr L)) := by
  have := build_c c53 c71 g85 l tr (h.ofO tr).1 (h.ofO tr).2
  rwa [h.of] at this
/-- Of, at a turned trace whose path is known. -/
theorem Trn.c16 {l L : List Spn} {tr : Int} (h : Trn l L tr) (v : List Of) (c53 : SortC Tryz.prog 164 14) (c71 : SortI Tryz.prog 56) (g85 : GrowC Tryz.prog 107 3 1 8) (cE : SortC Tryz.prog 71 7) (hl : l ≠ []) (hK : ∀ s ∈ l, okK (kyS s)) (root : Int) (hr : I64 root) (q : List Of) (hq : ∀ x ∈ q, I64 x.1)
    (cx : PCall Tryz.prog 19 [spsT l, ofsT v, ft (.int .i64 root)] (exT 0 q)) :
    PCall Tryz.prog 16 [spsT l, ofsT v, ft (.int .i64 root)] (tabT (tblE (sumW [] (attL l q (subB L root) l) 1)) 0) := by
  obtain ⟨hd, h0⟩ : ∃ hd, l[0]? = some hd := by
    rcases l with _ | ⟨x, r⟩
    · exact absurd rfl hl
    · exact ⟨x, rfl⟩
  have e : hd.tr = tr := h.trl hd (List.mem_of_getElem? h0)
  refine of16_ok cE l v root q hd h0 (treeOf tr L) (subB L root) cx ?_ (h.c44 root hr) hq (fun s hs => (h.intl s hs).2.1) hK (by have := h.lenl; omega)
  rw [e]
  exact h.c43 c53 c71 g85
def exTab : List En := [⟨⟨sApi, .empty, sGet⟩, 20, 1, 1, 1⟩, ⟨⟨sDb, .empty, sGet⟩, 60, 1, 1, 1⟩, ⟨⟨sWeb, .empty, sGet⟩, 20, 1, 1, 0⟩]
theorem ex_sub : subB exS 1 = [1, 2, 3] := by kernel_rfl
theorem ex_sum : sumW [] (attL exS exQ [1, 2, 3] exS) 1 = [⟨⟨sWeb, .empty, sGet⟩, 20, 1, 1, 0⟩, ⟨⟨sApi, .empty, sGet⟩, 20, 1, 1, 1⟩, ⟨⟨sDb, .empty, sGet⟩, 60, 1, 1, 1⟩] := by kernel_rfl
theorem ex_tab : tblE (sumW [] (attL exS exQ (subB exS 1) exS) 1) = exTab := by
  rw [ex_sub]
  have hu : Unq (sumW [] (attL exS exQ [1, 2, 3] exS) 1) := sumW_unq List.Pairwise.nil
  refine (tblE_uni hu ?_ ?_).symm
  · rw [ex_sum]
    exact List.perm_append_comm (l₁ := [(⟨⟨sApi, .empty, sGet⟩, 20, 1, 1, 1⟩ : En), ⟨⟨sDb, .empty, sGet⟩, 60, 1, 1, 1⟩]) (l₂ := [(⟨⟨sWeb, .empty, sGet⟩, 20, 1, 1, 0⟩ : En)])
  · have h1 : cmpKy ⟨sDb, .empty, sGet⟩ ⟨sApi, .empty, sGet⟩ = 1 := by kernel_rfl
    have h2 : cmpKy ⟨sWeb, .empty, sGet⟩ ⟨sApi, .empty, sGet⟩ = 1 := by kernel_rfl
    have h3 : cmpKy ⟨sWeb, .empty, sGet⟩ ⟨sDb, .empty, sGet⟩ = 1 := by kernel_rfl
    simp [exTab, cmpE, h1, h2, h3]
theorem ex_caus : causM exS 1 = ([2, 3], 0) := by
  have h : origL exS = [2, 3] := by decide
  have h2 : srtI [2, 3] = [2, 3] := List.mergeSort_of_pairwise (by decide)
  unfold causM
  rw [if_pos (by decide), h, h2]
  decide
theorem ex_okK : ∀ s ∈ exS, okK (kyS s) := by
  have h1 : okS sWeb := show (3 : Nat) ≤ 140737488355328 by omega
  have h2 : okS sApi := show (3 : Nat) ≤ 140737488355328 by omega
  have h3 : okS sDb := show (2 : Nat) ≤ 140737488355328 by omega
  have h4 : okS sGet := show (3 : Nat) ≤ 140737488355328 by omega
  have h5 : okS ByteArray.empty := show (0 : Nat) ≤ 140737488355328 by omega
  intro s hs
  simp only [exS, List.mem_cons, List.not_mem_nil, or_false] at hs
  rcases hs with rfl | rfl | rfl
  · exact ⟨h1, h5, h4⟩
  · exact ⟨h2, h5, h4⟩
  · exact ⟨h3, h5, h4⟩
theorem known_c (c53 : SortC Tryz.prog 164 14) (c71 : SortI Tryz.prog 56) (g85 : GrowC Tryz.prog 107 3 1 8) (cE : SortC Tryz.prog 71 7) : PCall Tryz.prog 13 [] (ft (.bool true)) := by
  have hvV : ∀ x ∈ exV, I64 x.1 := by simp [exV, I64]
  have hnV : (exV.map (·.1)).Nodup := by decide
  have ce := example_c
  have cX := ex_trn.c19 exV c53 c71 g85 hvV hnV ex_chkV 1 exP ex_pV (by simp [exP, I64]) [10, 20, 60, 10] ex_len
  rw [ex_ex] at cX
  have cO := ex_trn.c16 exV c53 c71 g85 cE (by simp [exS]) ex_okK 1 (by simp [I64]) exQ (by simp [exQ, I64]) cX
  rw [ex_tab] at cO
  have cC := causes_c c71 exS 1 (by decide) (by simp [exS, I64])
  rw [ex_caus] at cC
  have cT := total_c exTab
  rw [show totW exTab exTab.length = 100 from rfl] at cT
  have cI := ints_c [2, 3] [2, 3]
  rw [decide_eq_true rfl] at cI
  clear cX hvV hnV c53 c71 g85 cE
  generalize exS = s at *
  have e3 : (((3 : Nat) : Int) == 3) = true := by decide
  simp only [exTab, exV, ofA, enA, iA, tabT, cauT, List.map, sApi, sDb, sWeb, sGet] at cO cC cT cI
  have tn1 : Int.toNat 1 = 1 := rfl
  refine PCall.intro (nt := 60) (rs := [.tmp 0]) Tryz.func13 rfl ⟨by kernel_rfl, by kernel_rfl, by kernel_rfl⟩ (by simp) ?_
  rintro ⟨P, w0, ok0, may, np, pblk⟩ rfl rfl
  repeat' (first | refine W.seq fun K hK => ?_ | refine W.block ?_ | ((first | refine wR ?_ | refine wD ?_ | refine W.skip ?_ | refine W.exit ?_ | refine W.ret (Post.ret ?_) | refine aP ?_ | refine aF ?_); simp only [go_sem, reduceCtorEq, e3, tn1, List.getElem?_cons_succ, List.getElem?_cons_zero]) | refine wT ?_ | refine wF ?_ | refine wC (fun h => ?_) (fun h => ?_) | refine iK ?_ | refine aI2 ?_ | (refine hK _ ?_; clear hK K) | clear hK K)
end Go.Proofs.YthlimkmjobpjoaaGreat
namespace Go.Proofs
open Go.Shelf Go.RowKit Go.Lib Go.Sort
theorem YthlimkmjobpjoaaGreat.sortC_of {P : Program} {ρ : Ren} (L : SlLaysF0.n6 P ρ) (k : Nat) (aE : ∀ w, (isAgg (ρ.t 24)).run P w = .ok true w) (zE : ∀ w, (Go.sizeOf (ρ.t 24)).run P w = .ok k w) (ok : Go.Exe.CallOk P (ρ.f 6)) : Go.Exe.SortC P (ρ.f 6) k :=
  ⟨ok, fun p cap fv w => AnyF.slices_SortFunc_none L p cap fv w, fun enc cf g blk cap n w hk h1 hO eg hcmp hH hblk hsz => by
    have h := AnyQ.slices_SortFunc L k aE zE enc hk h1 cf hO g #[] blk 0 cap (Array.range n) w eg (fun m os dk hd x y => hcmp m os dk (by simpa using hd) x y) hH hblk (by simpa using hsz)
    rw [Array.size_range] at h
    exact h⟩
end Go.Proofs
/-
  DERIVED: THE SHELF's CONTRACTS AT THIS DUMP, IN PLAIN WORDS (tools/lay-plain.mjs out of 'BUo.lean', which tools/lay-shelf.mjs wrote): THE SAME DECLARATIONS UNDER THE SAME NAMES: 'import', 'namespace', 'open', 'def', 'theorem' AND NOTHING ELSE: no command of the shelf's: FOR A HAND-IN. Each laying: the table of numbers ('.._ren') and one theorem, a field a fact of the dump's own or the kernel's comparison; each contract: ONE APPLICATION.
-/
namespace Go.Proofs
open Go.Shelf
def Tryz.sort164_ren : Go.Shelf.Ren := ⟨fun | 6 => 164 | 15 => 94 | 14 => 176 | 28 => 128 | 29 => 129 | 20 => 180 | 21 => 181 | 22 => 182 | 23 => 183 | 24 => 184 | 25 => 185 | 26 => 186 | 27 => 187 | 46 => 188 | 47 => 152 | 48 => 153 | 49 => 189 | 50 => 190 | 57 => 191 | n => n, fun | 22 => 30 | 24 => 42 | 25 => 216 | 3 => 3 | 39 => 165 | 0 => 0 | 53 => 199 | 55 => 135 | 4 => 4 | 46 => 193 | 45 => 192 | 50 => 147 | 5 => 5 | 9 => 9 | 66 => 220 | 70 => 224 | 76 => 238 | 77 => 239 | n => n, fun | n => n⟩
theorem Tryz.sort164 : Go.Proofs.SlLaysF0.n6 Tryz.prog Tryz.sort164_ren := {
  mixed := by kernel_rfl
  f6 := ⟨Tryz.f164.name, by decide, Tryz.func164.trans (congrArg some (by kernel_rfl))⟩
  f14 := ⟨Tryz.f176.name, by decide, Tryz.func176.trans (congrArg some (by kernel_rfl))⟩
  f15 := Tryz.func94.trans (congrArg some (by kernel_rfl))
  f20 := ⟨Tryz.f180.name, by decide, Tryz.func180.trans (congrArg some (by kernel_rfl))⟩
  f21 := ⟨Tryz.f181.name, by decide, Tryz.func181.trans (congrArg some (by kernel_rfl))⟩
  f22 := ⟨Tryz.f182.name, by decide, Tryz.func182.trans (congrArg some (by kernel_rfl))⟩
  f23 := ⟨Tryz.f183.name, by decide, Tryz.func183.trans (congrArg some (by kernel_rfl))⟩
  f24 := ⟨Tryz.f184.name, by decide, Tryz.func184.trans (congrArg some (by kernel_rfl))⟩
  f25 := ⟨Tryz.f185.name, by decide, Tryz.func185.trans (congrArg some (by kernel_rfl))⟩
  f26 := ⟨Tryz.f186.name, by decide, Tryz.func186.trans (congrArg some (by kernel_rfl))⟩
  f27 := ⟨Tryz.f187.name, by decide, Tryz.func187.trans (congrArg some (by kernel_rfl))⟩
  f28 := Tryz.func128.trans (congrArg some (by kernel_rfl))
  f29 := Tryz.func129.trans (congrArg some (by kernel_rfl))
  f46 := ⟨Tryz.f188.name, by decide, Tryz.func188.trans (congrArg some (by kernel_rfl))⟩
  f47 := Tryz.func152.trans (congrArg some (by kernel_rfl))
  f48 := Tryz.func153.trans (congrArg some (by kernel_rfl))
  f49 := ⟨Tryz.f189.name, by decide, Tryz.func189.trans (congrArg some (by kernel_rfl))⟩
  f50 := ⟨Tryz.f190.name, by decide, Tryz.func190.trans (congrArg some (by kernel_rfl))⟩
  f57 := ⟨Tryz.f191.name, by decide, Tryz.func191.trans (congrArg some (by kernel_rfl))⟩
  t0 := Tryz.underlying0
  a0 := Tryz.isAgg0
  z0 := Tryz.sizeOf0
  v0 := Tryz.zeroValue0
  t3 := Tryz.underlying3
  a3 := Tryz.isAgg3
  z3 := Tryz.sizeOf3
  v3 := Tryz.zeroValue3
  t4 := Tryz.underlying4
  a4 := Tryz.isAgg4
  z4 := Tryz.sizeOf4
  v4 := Tryz.zeroValue4
  t5 := Tryz.underlying5
  a5 := Tryz.isAgg5
  z5 := Tryz.sizeOf5
  v5 := Tryz.zeroValue5
  t9 := Tryz.underlying9
  a9 := Tryz.isAgg9
  z9 := Tryz.sizeOf9
  v9 := Tryz.zeroValue9
  t22 := Tryz.underlying30
  a22 := Tryz.isAgg30
  z22 := Tryz.sizeOf30
  v22 := Tryz.zeroValue30
  t25 := Tryz.underlying216
  a25 := Tryz.isAgg216
  z25 := Tryz.sizeOf216
  v25 := Tryz.zeroValue216
  t39 := Tryz.underlying165
  a39 := Tryz.isAgg165
  z39 := Tryz.sizeOf165
  v39 := Tryz.zeroValue165
  t45 := Tryz.underlying192
  a45 := Tryz.isAgg192
  z45 := Tryz.sizeOf192
  v45 := Tryz.zeroValue192
  t46 := Tryz.underlying193
  a46 := Tryz.isAgg193
  z46 := Tryz.sizeOf193
  v46 := Tryz.zeroValue193
  t50 := Tryz.underlying147
  a50 := Tryz.isAgg147
  z50 := Tryz.sizeOf147
  v50 := Tryz.zeroValue147
  t53 := Tryz.underlying199
  a53 := Tryz.isAgg199
  z53 := Tryz.sizeOf199
  v53 := Tryz.zeroValue199
  t55 := Tryz.underlying135
  a55 := Tryz.isAgg135
  z55 := Tryz.sizeOf135
  v55 := Tryz.zeroValue135
  t66 := Tryz.underlying220
  a66 := Tryz.isAgg220
  z66 := Tryz.sizeOf220
  v66 := Tryz.zeroValue220
  t70 := Tryz.underlying224
  a70 := Tryz.isAgg224
  z70 := Tryz.sizeOf224
  v70 := Tryz.zeroValue224
  t76 := Tryz.underlying238
  a76 := Tryz.isAgg238
  z76 := Tryz.sizeOf238
  v76 := Tryz.zeroValue238
  t77 := Tryz.underlying239
  a77 := Tryz.isAgg239
  z77 := Tryz.sizeOf239
  v77 := Tryz.zeroValue239 }
def Tryz.pdq101_ren : Go.Shelf.Ren := ⟨fun | 14 => 101 | 20 => 130 | 21 => 131 | 22 => 132 | 23 => 133 | 24 => 134 | 25 => 135 | 26 => 136 | 27 => 137 | 46 => 156 | 47 => 152 | 48 => 153 | 49 => 157 | 50 => 158 | 15 => 94 | 57 => 167 | 28 => 128 | 29 => 129 | n => n, fun | 24 => 65 | 22 => 34 | 3 => 3 | 25 => 142 | 4 => 4 | 0 => 0 | 46 => 193 | 45 => 192 | 50 => 147 | 66 => 220 | 39 => 165 | 55 => 135 | 70 => 224 | 76 => 238 | 77 => 239 | 53 => 199 | 5 => 5 | 9 => 9 | n => n, fun | n => n⟩
theorem Tryz.pdq101 : Go.Proofs.SlLaysF0.n14 Tryz.prog Tryz.pdq101_ren := {
  mixed := by kernel_rfl
  f14 := ⟨Tryz.f101.name, by decide, Tryz.func101.trans (congrArg some (by kernel_rfl))⟩
  f15 := Tryz.func94.trans (congrArg some (by kernel_rfl))
  f20 := ⟨Tryz.f130.name, by decide, Tryz.func130.trans (congrArg some (by kernel_rfl))⟩
  f21 := ⟨Tryz.f131.name, by decide, Tryz.func131.trans (congrArg some (by kernel_rfl))⟩
  f22 := ⟨Tryz.f132.name, by decide, Tryz.func132.trans (congrArg some (by kernel_rfl))⟩
  f23 := ⟨Tryz.f133.name, by decide, Tryz.func133.trans (congrArg some (by kernel_rfl))⟩
  f24 := ⟨Tryz.f134.name, by decide, Tryz.func134.trans (congrArg some (by kernel_rfl))⟩
  f25 := ⟨Tryz.f135.name, by decide, Tryz.func135.trans (congrArg some (by kernel_rfl))⟩
  f26 := ⟨Tryz.f136.name, by decide, Tryz.func136.trans (congrArg some (by kernel_rfl))⟩
  f27 := ⟨Tryz.f137.name, by decide, Tryz.func137.trans (congrArg some (by kernel_rfl))⟩
  f28 := Tryz.func128.trans (congrArg some (by kernel_rfl))
  f29 := Tryz.func129.trans (congrArg some (by kernel_rfl))
  f46 := ⟨Tryz.f156.name, by decide, Tryz.func156.trans (congrArg some (by kernel_rfl))⟩
  f47 := Tryz.func152.trans (congrArg some (by kernel_rfl))
  f48 := Tryz.func153.trans (congrArg some (by kernel_rfl))
  f49 := ⟨Tryz.f157.name, by decide, Tryz.func157.trans (congrArg some (by kernel_rfl))⟩
  f50 := ⟨Tryz.f158.name, by decide, Tryz.func158.trans (congrArg some (by kernel_rfl))⟩
  f57 := ⟨Tryz.f167.name, by decide, Tryz.func167.trans (congrArg some (by kernel_rfl))⟩
  t0 := Tryz.underlying0
  a0 := Tryz.isAgg0
  z0 := Tryz.sizeOf0
  v0 := Tryz.zeroValue0
  t3 := Tryz.underlying3
  a3 := Tryz.isAgg3
  z3 := Tryz.sizeOf3
  v3 := Tryz.zeroValue3
  t4 := Tryz.underlying4
  a4 := Tryz.isAgg4
  z4 := Tryz.sizeOf4
  v4 := Tryz.zeroValue4
  t5 := Tryz.underlying5
  a5 := Tryz.isAgg5
  z5 := Tryz.sizeOf5
  v5 := Tryz.zeroValue5
  t9 := Tryz.underlying9
  a9 := Tryz.isAgg9
  z9 := Tryz.sizeOf9
  v9 := Tryz.zeroValue9
  t22 := Tryz.underlying34
  a22 := Tryz.isAgg34
  z22 := Tryz.sizeOf34
  v22 := Tryz.zeroValue34
  t25 := Tryz.underlying142
  a25 := Tryz.isAgg142
  z25 := Tryz.sizeOf142
  v25 := Tryz.zeroValue142
  t39 := Tryz.underlying165
  a39 := Tryz.isAgg165
  z39 := Tryz.sizeOf165
  v39 := Tryz.zeroValue165
  t45 := Tryz.underlying192
  a45 := Tryz.isAgg192
  z45 := Tryz.sizeOf192
  v45 := Tryz.zeroValue192
  t46 := Tryz.underlying193
  a46 := Tryz.isAgg193
  z46 := Tryz.sizeOf193
  v46 := Tryz.zeroValue193
  t50 := Tryz.underlying147
  a50 := Tryz.isAgg147
  z50 := Tryz.sizeOf147
  v50 := Tryz.zeroValue147
  t53 := Tryz.underlying199
  a53 := Tryz.isAgg199
  z53 := Tryz.sizeOf199
  v53 := Tryz.zeroValue199
  t55 := Tryz.underlying135
  a55 := Tryz.isAgg135
  z55 := Tryz.sizeOf135
  v55 := Tryz.zeroValue135
  t66 := Tryz.underlying220
  a66 := Tryz.isAgg220
  z66 := Tryz.sizeOf220
  v66 := Tryz.zeroValue220
  t70 := Tryz.underlying224
  a70 := Tryz.isAgg224
  z70 := Tryz.sizeOf224
  v70 := Tryz.zeroValue224
  t76 := Tryz.underlying238
  a76 := Tryz.isAgg238
  z76 := Tryz.sizeOf238
  v76 := Tryz.zeroValue238
  t77 := Tryz.underlying239
  a77 := Tryz.isAgg239
  z77 := Tryz.sizeOf239
  v77 := Tryz.zeroValue239 }
def Tryz.len94_ren : Go.Shelf.Ren := ⟨fun | 15 => 94 | 28 => 128 | 29 => 129 | n => n, fun | 39 => 165 | 3 => 3 | 53 => 199 | 55 => 135 | 4 => 4 | 5 => 5 | 9 => 9 | n => n, fun | n => n⟩
theorem Tryz.len94 : Go.Proofs.SlLaysF0.n15 Tryz.prog Tryz.len94_ren := {
  mixed := by kernel_rfl
  f15 := Tryz.func94.trans (congrArg some (by kernel_rfl))
  f28 := Tryz.func128.trans (congrArg some (by kernel_rfl))
  f29 := Tryz.func129.trans (congrArg some (by kernel_rfl))
  t3 := Tryz.underlying3
  a3 := Tryz.isAgg3
  z3 := Tryz.sizeOf3
  v3 := Tryz.zeroValue3
  t4 := Tryz.underlying4
  a4 := Tryz.isAgg4
  z4 := Tryz.sizeOf4
  v4 := Tryz.zeroValue4
  t5 := Tryz.underlying5
  a5 := Tryz.isAgg5
  z5 := Tryz.sizeOf5
  v5 := Tryz.zeroValue5
  t9 := Tryz.underlying9
  a9 := Tryz.isAgg9
  z9 := Tryz.sizeOf9
  v9 := Tryz.zeroValue9
  t39 := Tryz.underlying165
  a39 := Tryz.isAgg165
  z39 := Tryz.sizeOf165
  v39 := Tryz.zeroValue165
  t53 := Tryz.underlying199
  a53 := Tryz.isAgg199
  z53 := Tryz.sizeOf199
  v53 := Tryz.zeroValue199
  t55 := Tryz.underlying135
  a55 := Tryz.isAgg135
  z55 := Tryz.sizeOf135
  v55 := Tryz.zeroValue135 }
end Go.Proofs
/-
  DERIVED: THE SHELF's CONTRACTS AT THIS DUMP, IN PLAIN WORDS (tools/lay-plain.mjs out of 'BUp.lean', which tools/lay-shelf.mjs wrote): THE SAME DECLARATIONS UNDER THE SAME NAMES: 'import', 'namespace', 'open', 'def', 'theorem' AND NOTHING ELSE: no command of the shelf's: FOR A HAND-IN. Each laying: the table of numbers ('.._ren') and one theorem, a field a fact of the dump's own or the kernel's comparison; each contract: ONE APPLICATION.
-/
namespace Go.Proofs
open Go.Shelf
def Tryz.grow107_ren : Go.Shelf.Ren := ⟨fun | 4 => 107 | n => n, fun | 22 => 51 | 25 => 3 | 3 => 3 | 4 => 4 | 9 => 9 | 20 => 20 | 0 => 0 | n => n, fun | n => n⟩
theorem Tryz.grow107 : Go.Proofs.Lays8.n4 Tryz.prog Tryz.grow107_ren := {
  mixed := by kernel_rfl
  f4 := ⟨Tryz.f107.name, by decide, Tryz.func107.trans (congrArg some (by kernel_rfl))⟩
  t0 := Tryz.underlying0
  a0 := Tryz.isAgg0
  z0 := Tryz.sizeOf0
  v0 := Tryz.zeroValue0
  t3 := Tryz.underlying3
  a3 := Tryz.isAgg3
  z3 := Tryz.sizeOf3
  v3 := Tryz.zeroValue3
  t4 := Tryz.underlying4
  a4 := Tryz.isAgg4
  z4 := Tryz.sizeOf4
  v4 := Tryz.zeroValue4
  t9 := Tryz.underlying9
  a9 := Tryz.isAgg9
  z9 := Tryz.sizeOf9
  v9 := Tryz.zeroValue9
  t20 := Tryz.underlying20
  a20 := Tryz.isAgg20
  z20 := Tryz.sizeOf20
  v20 := Tryz.zeroValue20
  t22 := Tryz.underlying51
  a22 := Tryz.isAgg51
  z22 := Tryz.sizeOf51
  v22 := Tryz.zeroValue51 }
def Tryz.sort56_ren : Go.Shelf.Ren := ⟨fun | 5 => 56 | 8 => 94 | 7 => 93 | 19 => 128 | 20 => 129 | 10 => 119 | 11 => 120 | 12 => 121 | 13 => 122 | 14 => 123 | 15 => 124 | 16 => 125 | 17 => 126 | 18 => 127 | 30 => 151 | 31 => 152 | 32 => 153 | 33 => 154 | 34 => 155 | 35 => 102 | 40 => 166 | n => n, fun | 23 => 51 | 25 => 3 | 3 => 3 | 32 => 165 | 22 => 51 | 0 => 0 | 44 => 199 | 46 => 135 | 4 => 4 | 36 => 193 | 35 => 192 | 41 => 147 | 5 => 5 | 9 => 9 | 53 => 220 | 57 => 224 | 63 => 238 | 64 => 239 | n => n, fun | n => n⟩
theorem Tryz.sort56 : Go.Proofs.SlLaysM.n5 Tryz.prog Tryz.sort56_ren := {
  mixed := by kernel_rfl
  f5 := ⟨Tryz.f56.name, by decide, Tryz.func56.trans (congrArg some (by kernel_rfl))⟩
  f7 := ⟨Tryz.f93.name, by decide, Tryz.func93.trans (congrArg some (by kernel_rfl))⟩
  f8 := Tryz.func94.trans (congrArg some (by kernel_rfl))
  f10 := ⟨Tryz.f119.name, by decide, Tryz.func119.trans (congrArg some (by kernel_rfl))⟩
  f11 := ⟨Tryz.f120.name, by decide, Tryz.func120.trans (congrArg some (by kernel_rfl))⟩
  f12 := ⟨Tryz.f121.name, by decide, Tryz.func121.trans (congrArg some (by kernel_rfl))⟩
  f13 := ⟨Tryz.f122.name, by decide, Tryz.func122.trans (congrArg some (by kernel_rfl))⟩
  f14 := ⟨Tryz.f123.name, by decide, Tryz.func123.trans (congrArg some (by kernel_rfl))⟩
  f15 := ⟨Tryz.f124.name, by decide, Tryz.func124.trans (congrArg some (by kernel_rfl))⟩
  f16 := ⟨Tryz.f125.name, by decide, Tryz.func125.trans (congrArg some (by kernel_rfl))⟩
  f17 := ⟨Tryz.f126.name, by decide, Tryz.func126.trans (congrArg some (by kernel_rfl))⟩
  f18 := ⟨Tryz.f127.name, by decide, Tryz.func127.trans (congrArg some (by kernel_rfl))⟩
  f19 := Tryz.func128.trans (congrArg some (by kernel_rfl))
  f20 := Tryz.func129.trans (congrArg some (by kernel_rfl))
  f30 := ⟨Tryz.f151.name, by decide, Tryz.func151.trans (congrArg some (by kernel_rfl))⟩
  f31 := Tryz.func152.trans (congrArg some (by kernel_rfl))
  f32 := Tryz.func153.trans (congrArg some (by kernel_rfl))
  f33 := ⟨Tryz.f154.name, by decide, Tryz.func154.trans (congrArg some (by kernel_rfl))⟩
  f34 := ⟨Tryz.f155.name, by decide, Tryz.func155.trans (congrArg some (by kernel_rfl))⟩
  f35 := ⟨Tryz.f102.name, by decide, Tryz.func102.trans (congrArg some (by kernel_rfl))⟩
  f40 := ⟨Tryz.f166.name, by decide, Tryz.func166.trans (congrArg some (by kernel_rfl))⟩
  t0 := Tryz.underlying0
  a0 := Tryz.isAgg0
  z0 := Tryz.sizeOf0
  v0 := Tryz.zeroValue0
  t3 := Tryz.underlying3
  a3 := Tryz.isAgg3
  z3 := Tryz.sizeOf3
  v3 := Tryz.zeroValue3
  t4 := Tryz.underlying4
  a4 := Tryz.isAgg4
  z4 := Tryz.sizeOf4
  v4 := Tryz.zeroValue4
  t5 := Tryz.underlying5
  a5 := Tryz.isAgg5
  z5 := Tryz.sizeOf5
  v5 := Tryz.zeroValue5
  t9 := Tryz.underlying9
  a9 := Tryz.isAgg9
  z9 := Tryz.sizeOf9
  v9 := Tryz.zeroValue9
  t22 := Tryz.underlying51
  a22 := Tryz.isAgg51
  z22 := Tryz.sizeOf51
  v22 := Tryz.zeroValue51
  t23 := Tryz.underlying51
  a23 := Tryz.isAgg51
  z23 := Tryz.sizeOf51
  v23 := Tryz.zeroValue51
  t25 := Tryz.underlying3
  a25 := Tryz.isAgg3
  z25 := Tryz.sizeOf3
  v25 := Tryz.zeroValue3
  t32 := Tryz.underlying165
  a32 := Tryz.isAgg165
  z32 := Tryz.sizeOf165
  v32 := Tryz.zeroValue165
  t35 := Tryz.underlying192
  a35 := Tryz.isAgg192
  z35 := Tryz.sizeOf192
  v35 := Tryz.zeroValue192
  t36 := Tryz.underlying193
  a36 := Tryz.isAgg193
  z36 := Tryz.sizeOf193
  v36 := Tryz.zeroValue193
  t41 := Tryz.underlying147
  a41 := Tryz.isAgg147
  z41 := Tryz.sizeOf147
  v41 := Tryz.zeroValue147
  t44 := Tryz.underlying199
  a44 := Tryz.isAgg199
  z44 := Tryz.sizeOf199
  v44 := Tryz.zeroValue199
  t46 := Tryz.underlying135
  a46 := Tryz.isAgg135
  z46 := Tryz.sizeOf135
  v46 := Tryz.zeroValue135
  t53 := Tryz.underlying220
  a53 := Tryz.isAgg220
  z53 := Tryz.sizeOf220
  v53 := Tryz.zeroValue220
  t57 := Tryz.underlying224
  a57 := Tryz.isAgg224
  z57 := Tryz.sizeOf224
  v57 := Tryz.zeroValue224
  t63 := Tryz.underlying238
  a63 := Tryz.isAgg238
  z63 := Tryz.sizeOf238
  v63 := Tryz.zeroValue238
  t64 := Tryz.underlying239
  a64 := Tryz.isAgg239
  z64 := Tryz.sizeOf239
  v64 := Tryz.zeroValue239 }
end Go.Proofs
namespace Go.Proofs
open Go.Shelf Go.RowKit Go.Lib Go.Sort
theorem YthlimkmjobpjoaaGreat.sort71_none (p : Option Addr) (cap : Nat) (fv : Value) (w : World) :
    Calls Tryz.prog 71 #[.slice p 0 cap, fv] w fun e w' => e = .returned (.tuple #[]) ∧ w' = w := by
  have L := Tryz.pdq101
  have L5 := Tryz.len94
  have mixed := L.mixed; have t0 := L.t0; have a0 := L.a0; have z0 := L.z0; have v0 := L.v0; have t3 := L.t3; have a3 := L.a3; have z3 := L.z3; have v3 := L.v3
  have t35 : Tryz.prog.underlying 35 = some (.slice 65) := by kernel_rfl
  have t165 : Tryz.prog.underlying 165 = some (.int .u64) := by kernel_rfl
  have e14 : ∀ args w, (callFunc 101 args).run Tryz.prog w = .ok (.enter 101 args) w := L.f14.enters rfl
  have e15 : ∀ args w, (callFunc 94 args).run Tryz.prog w = .ok (.enter 94 args) w := enters_of L5.f15 (by kernel_rfl) rfl
  have hp := fun lim W => AnyF.pdqsortCmpFunc_none L p cap lim fv W
  have hl : ∀ W, Calls Tryz.prog 94 #[.int .u64 0] W fun e w' => e = .returned (.int .i64 (Lib.bitLen 0 : Nat)) ∧ w' = W := fun W => by
    have h := Any.bits_Len (SlLaysF0.n15.bits L5) 0 W (by omega) (by omega)
    exact h
  go_enter Tryz.func71, (show Tryz.f71.ntmps = 14 from rfl)
  go_wp2_with (first | (go_at_fn 94; refine (hl _).mono ?_; rintro e w' ⟨rfl, rfl⟩) | (go_at_fn 101; refine (hp _ _).mono ?_; rintro e w' ⟨rfl, rfl⟩))
  go_end0
  exact ⟨rfl, rfl⟩
theorem YthlimkmjobpjoaaGreat.sort71_full {α : Type} [Inhabited α] (k : Nat) (aE : ∀ w, (isAgg 65).run Tryz.prog w = .ok true w) (zE : ∀ w, (Go.sizeOf 65).run Tryz.prog w = .ok k w) (enc : α → List Value) (hk : ∀ x, (enc x).length = k) (h1 : ∀ x, ∀ v ∈ enc x, v.oneCell' = true) (cf : α → α → Int) (hO : SWO (ltOf cf)) (g : Nat) (cb : Array Value) (blk off cap : Nat) (d : Array α) (w : World)
    (eg : ∀ args w, (callFunc g args).run Tryz.prog w = .ok (.enter g args) w) (hcmp : CmpLays Tryz.prog g cb enc k cf blk off d.size w) (hH : HoldsK enc k w blk off d) (hblk : blk < w.heap.size) (hsz : d.size < 4611686018427387904) :
    Calls Tryz.prog 71 #[.slice (some ⟨blk, off, none⟩) d.size cap, .func (.func g) #[] cb] w fun e w' =>
      e = .returned (.tuple #[]) ∧ ∃ d' n os, PermIn 0 d.size d d' ∧ SortedIn (ltOf cf) 0 d.size d' ∧ w' = sortWorldK enc k w blk off n d' os := by
  have L := Tryz.pdq101
  have L5 := Tryz.len94
  have mixed := L.mixed; have t0 := L.t0; have a0 := L.a0; have z0 := L.z0; have v0 := L.v0; have t3 := L.t3; have a3 := L.a3; have z3 := L.z3; have v3 := L.v3
  have t35 : Tryz.prog.underlying 35 = some (.slice 65) := by kernel_rfl
  have t165 : Tryz.prog.underlying 165 = some (.int .u64) := by kernel_rfl
  have e14 : ∀ args w, (callFunc 101 args).run Tryz.prog w = .ok (.enter 101 args) w := L.f14.enters rfl
  have e15 : ∀ args w, (callFunc 94 args).run Tryz.prog w = .ok (.enter 94 args) w := enters_of L5.f15 (by kernel_rfl) rfl
  have hlim : Lib.bitLen d.size < 4611686018427387904 := Nat.lt_of_le_of_lt (Lib.bitLen_le d.size 62 (by omega) (by omega)) (by omega)
  have hp := AnyQ.pdqsortCmpFunc_all L k aE zE enc cf g cb hO blk off cap d w eg hcmp ⟨hk, h1, hH, hblk⟩ (d.size + 1) 0 d.size (Lib.bitLen d.size) d w (by omega) rfl (SWK.start hH) (Nat.zero_le _) (Nat.le_refl _) hsz hlim (Or.inl rfl)
  have hl : Calls Tryz.prog 94 #[.int .u64 (d.size : Int)] w fun e w' => e = .returned (.int .i64 (Lib.bitLen d.size : Nat)) ∧ w' = w := by
    have h := Any.bits_Len (SlLaysF0.n15.bits L5) (d.size : Int) w (by omega) (by omega)
    rwa [Int.toNat_natCast] at h
  have wr : IntKind.u64.wrap (d.size : Int) = d.size := by simp [IntKind.wrap, IntKind.bits, IntKind.signed]; omega
  have key : Calls Tryz.prog 71 #[.slice (some ⟨blk, off, none⟩) d.size cap, .func (.func g) #[] cb] w fun e w' => e = .returned (.tuple #[]) ∧ ∃ n os, w' = sortWorldK enc k w blk off n (pdq (ltOf cf) d 0 d.size (Lib.bitLen d.size) true true) os := by
    clear hH hcmp hk h1
    go_enter Tryz.func71, (show Tryz.f71.ntmps = 14 from rfl)
    go_wp2_with (first | (go_at_fn 94; refine hl.mono ?_; rintro e w' ⟨rfl, rfl⟩) | (go_at_fn 101; refine hp.mono ?_; rintro e w' ⟨rfl, n, os, rfl⟩))
    go_end0
    exact ⟨rfl, n, os, rfl⟩
  exact key.mono fun _ _ ⟨he, n, os, hw⟩ =>
    have h := pdq_sorts (ltOf cf) hO d 0 d.size (Lib.bitLen d.size) true true (Nat.zero_le _) (Nat.le_refl _) (Or.inl rfl)
    ⟨he, _, n, os, h.1, h.2, hw⟩
theorem YthlimkmjobpjoaaGreat.sort71_of (k : Nat) (aE : ∀ w, (isAgg 65).run Tryz.prog w = .ok true w) (zE : ∀ w, (Go.sizeOf 65).run Tryz.prog w = .ok k w) (ok : Go.Exe.CallOk Tryz.prog 71) : Go.Exe.SortC Tryz.prog 71 k :=
  ⟨ok, fun p cap fv w => YthlimkmjobpjoaaGreat.sort71_none p cap fv w, fun enc cf g blk cap n w hk h1 hO eg hcmp hH hblk hsz => by
    have h := YthlimkmjobpjoaaGreat.sort71_full k aE zE enc hk h1 cf hO g #[] blk 0 cap (Array.range n) w eg (fun m os dk hd x y => hcmp m os dk (by simpa using hd) x y) hH hblk (by simpa using hsz)
    rw [Array.size_range] at h
    exact h⟩
end Go.Proofs
namespace Go.Proofs.YthlimkmjobpjoaaGreat
open Go.RowKit Go.Exe
theorem aggOf {P : Program} {t : TypeId} {n : Nat} (ht : TI P t = some (true, n)) (w : World) : (isAgg t).run P w = .ok true w := by
  obtain ⟨i, d, hi, hd, hg, hn⟩ := TI_spec ht
  unfold isAgg
  simp only [Sem.run_bind, run_underlying hd, Result.andThen_ok]
  rw [← hg]
  cases d <;> rfl
theorem sizeOf_ {P : Program} {t : TypeId} {g : Bool} {n : Nat} (ht : TI P t = some (g, n)) (w : World) : (Go.sizeOf t).run P w = .ok n w := by
  obtain ⟨i, d, h1, h2, h3, h4⟩ := TI_spec ht
  simp [sizeOf, typeInfo, h1, h4]
theorem sort164_c : SortC Tryz.prog 164 14 := sortC_of Tryz.sort164 14 (aggOf tI42) (sizeOf_ tI42) ⟨Tryz.f164, Tryz.func164, by kernel_rfl, by kernel_rfl⟩
theorem sort71_c : SortC Tryz.prog 71 7 := sort71_of 7 (aggOf tI65) (sizeOf_ tI65) ⟨Tryz.f71, Tryz.func71, by kernel_rfl, by kernel_rfl⟩
theorem sort56_c : SortI Tryz.prog 56 := ⟨⟨Tryz.f56, Tryz.func56, by kernel_rfl, by kernel_rfl⟩, fun p cap w => AnyM.slices_Sort_int_none Tryz.sort56 p cap w, fun blk cap zs w hH hb hn => AnyM.slices_Sort_int Tryz.sort56 blk 0 cap zs w hH hb hn⟩
theorem grow107_c : GrowC Tryz.prog 107 3 1 8 := by
  refine ⟨⟨Tryz.f107, Tryz.func107, by kernel_rfl, by kernel_rfl⟩, fun w => Any8.slices_Grow_room Tryz.grow107 none 0 0 0 w (Nat.le_refl _) (by decide) (by decide) (Nat.le_refl _), fun n w h0 h1 h2 => ?_⟩
  obtain ⟨i0, hi0, hsz, hbs⟩ := EInfo_spec tE3
  obtain ⟨i1, z, hi1, hz, hzs, _⟩ := ZV_spec tZ3
  obtain rfl : i0 = i1 := by rw [hi0] at hi1; exact Option.some.inj hi1
  have hzz : z.cells.size = 1 := by rw [← Array.length_toList, hzs]; rfl
  have hb1 : n * i0.bytes ≤ 140737488355328 := by rw [hbs]; exact h1
  refine (Any8.slices_Grow_grow Tryz.grow107 i0 z hi0 hz (by rw [hsz]; exact Nat.zero_lt_one) none 0 0 n [] w (Nat.le_refl _) (by omega) (by rw [Nat.zero_add]; exact hb1) (by omega) (by simp) (fun _ => rfl) (fun a ha => by cases ha)).mono fun ed w' ⟨e1, e2⟩ => ?_
  have hge := Go.grownCap_ge w (0 + n) 0 (Tryz.grow107_ren.t 25)
  have hle := Go.grownCap_le_maxLen w (0 + n) 0 (Tryz.grow107_ren.t 25) (by unfold maxLen; omega)
  refine ⟨_, _, e1, hle, ?_, e2⟩
  have hzc : ∀ m, (Builtin.zeroCells z.cells m).size = m := fun m => by simp [Builtin.zeroCells, hzz]
  simp only [Array.size_append, hzc, Nat.zero_add] at hge ⊢
  simp only [List.size_toArray, List.length_nil]
  omega
end Go.Proofs.YthlimkmjobpjoaaGreat
namespace Go.Proofs.YthlimkmjobpjoaaGreat
open Go.RowKit Go.Exe
/-! ### weighted totals of tables -/
structure Lin (f : Nm → Int) : Prop where
  z : f Nm.z = 0
  pl : ∀ a b n, f (a.pl b n) = f a + n * f b
/-! ### the machine's sums where nothing overflows -/
end Go.Proofs.YthlimkmjobpjoaaGreat
namespace Go.Proofs.YthlimkmjobpjoaaGreat
open Go.RowKit Go.Exe
/-! ### the document's plus and sum -/
/-! ### signs -/
/-! ### tables that pass the check -/
end Go.Proofs.YthlimkmjobpjoaaGreat
namespace Go.Proofs.YthlimkmjobpjoaaGreat
open Go.RowKit Go.Exe
/-! ### tables compared and checked -/
instance : DecidableEq En := fun a b => decidable_of_iff (a.k = b.k ∧ a.ti = b.ti ∧ a.sp = b.sp ∧ a.er = b.er ∧ a.og = b.og) ⟨fun ⟨h1, h2, h3, h4, h5⟩ => by cases a; cases b; simp_all, fun e => by subst e; exact ⟨rfl, rfl, rfl, rfl, rfl⟩⟩
theorem fields65 : (Tryz.prog.fieldsOf 65).toList = [{ name := "Key", type := 63, offset := 0, embedded := false, tag := "", pkgPath := "", byteOffset := 0 }, { name := "Time", type := 3, offset := 3, embedded := false, tag := "", pkgPath := "", byteOffset := 48 }, { name := "Spans", type := 3, offset := 4, embedded := false, tag := "", pkgPath := "", byteOffset := 56 }, { name := "Errors", type := 3, offset := 5, embedded := false, tag := "", pkgPath := "", byteOffset := 64 }, { name := "Origins", type := 3, offset := 6, embedded := false, tag := "", pkgPath := "", byteOffset := 72 }] := by kernel_rfl
theorem st65 : Tryz.prog.underlying 65 = some (.struct (Tryz.prog.fieldsOf 65)) := by kernel_rfl
theorem si65 : Tryz.prog.stoodInHeld 65 = false := by kernel_rfl
theorem si63 : Tryz.prog.stoodInHeld 63 = false := by kernel_rfl
theorem eqG65 : Tryz.prog.eqGuardType Tryz.prog.depth 65 = false := by kernel_rfl
theorem agg9 (w : World) : (isAgg 9).run Tryz.prog w = .ok false w := by kernel_rfl
theorem agg63 (w : World) : (isAgg 63).run Tryz.prog w = .ok true w := by kernel_rfl
theorem sz63 (w : World) : (sizeOf 63).run Tryz.prog w = .ok 3 w := by kernel_rfl
theorem toL_eq (a b : ByteArray) : (a.toList == b.toList) = decide (a = b) := by
  by_cases h : a = b
  · subst h; simp
  · rw [decide_eq_false h, beq_eq_false_iff_ne]
    intro e
    refine h ?_
    have := lwB.eq a b (by
      unfold cmpB
      rw [e]
      have h1 := lwB.refl b
      unfold cmpB at h1
      exact h1)
    exact this
theorem eqKyN (n : Nat) (a b : Ky) (w : World) : (Op.equalIn (n + 2) 63 (kyV a) (kyV b)).run Tryz.prog w = .ok (decide (a = b)) w := by
  obtain ⟨a1, a2, a3⟩ := a
  obtain ⟨b1, b2, b3⟩ := b
  unfold kyV
  rw [run_equalIn_struct w (n + 1) 63 _ _ st63 si63, fields63]
  simp [Op.eqFields, Sem.run_bind, run_equalIn_string _ _ _ _ _ tU9, part, agg9, toL_eq]
  by_cases h1 : a1 = b1 <;> by_cases h2 : a2 = b2 <;> by_cases h3 : a3 = b3 <;> simp [h1, h2, h3]
theorem eqEn (x y : En) (w : World) : (Op.equal 65 (.agg #[.string x.k.sv, .string x.k.ve, .string x.k.op, .int .i64 x.ti, .int .i64 x.sp, .int .i64 x.er, .int .i64 x.og]) (.agg #[.string y.k.sv, .string y.k.ve, .string y.k.op, .int .i64 y.ti, .int .i64 y.sp, .int .i64 y.er, .int .i64 y.og])).run Tryz.prog w = .ok (decide (x = y)) w := by
  obtain ⟨⟨a1, a2, a3⟩, a4, a5, a6, a7⟩ := x
  obtain ⟨⟨b1, b2, b3⟩, b4, b5, b6, b7⟩ := y
  unfold Op.equal Op.maxDepth
  have x1 : ∀ a b c (d e f g : Int), (#[Value.string a, .string b, .string c, .int .i64 d, .int .i64 e, .int .i64 f, .int .i64 g] : Array Value).extract 0 (0 + 3) = #[.string a, .string b, .string c] := fun _ _ _ _ _ _ _ => rfl
  have q1 := fun a b w => eqKyN 9997 a b w
  have q2 := q1 ⟨a1, a2, a3⟩ ⟨b1, b2, b3⟩
  unfold kyV at q2
  rw [run_equalIn_struct w 9999 65 _ _ st65 si65, fields65]
  simp only [Op.eqFields, ne_eq, String.reduceEq, not_false_eq_true, if_true, part, Sem.run_bind, agg63, sz63, agg3, Result.andThen_ok, Sem.run_ite, Sem.run_pure, x1, q2, Bool.false_eq_true, if_false, reduceIte]
  by_cases h0 : (⟨a1, a2, a3⟩ : Ky) = ⟨b1, b2, b3⟩
  · rw [decide_eq_true h0]
    cases h0
    by_cases h4 : a4 = b4 <;> by_cases h5 : a5 = b5 <;> by_cases h6 : a6 = b6 <;> by_cases h7 : a7 = b7 <;> simp [h4, h5, h6, h7, Sem.run_bind, run_equalIn_int _ _ _ _ _ _ _ tU3]
  · rw [decide_eq_false h0]
    have : ¬ ((⟨⟨a1, a2, a3⟩, a4, a5, a6, a7⟩ : En) = ⟨⟨b1, b2, b3⟩, b4, b5, b6, b7⟩) := fun e => h0 (by cases e; rfl)
    simp [this]
end Go.Proofs.YthlimkmjobpjoaaGreat
namespace Go.Proofs.YthlimkmjobpjoaaGreat
open Go.RowKit Go.Exe
attribute [local irreducible] W AX Run RunD AStep AOp AOpX AStB AStH AStG Fits PCall GCall PostG Post Stop
theorem same_c (a b : List En) : PCall Tryz.prog 17 [tbT a, tbT b] (ft (.bool (decide (a = b)))) := by
  have hG := eqG65
  by_cases hl : a.length = b.length
  · have e0 : (((a.length : Nat) : Int) != ((b.length : Nat) : Int)) = false := by simp [hl]
    refine PCall.intro (nt := 26) (rs := [.tmp 4]) Tryz.func17 rfl ⟨by kernel_rfl, by kernel_rfl, by kernel_rfl⟩ (by simp) ?_
    rintro ⟨P, w0, ok0, may, np, pblk⟩ rfl rfl
    refine W.lenIm 0 rfl fun hlen => ?_
    rw [List.length_map, maxLen_is] at hlen
    repeat' (first | refine W.seq fun K hK => ?_ | refine W.block ?_ | ((first | refine wR ?_ | refine wD ?_ | refine W.skip ?_ | refine W.exit ?_ | refine W.ret (Post.ret ?_) | refine aP ?_ | refine aF ?_ | refine aE ?_ | refine aQ ?_); simp only [go_sem, reduceCtorEq, List.length_map, e0]) | refine wT ?_ | refine wF ?_ | refine wC (fun h => ?_) (fun h => ?_) | refine iK ?_ | refine aI2 ?_ | (refine hK _ ?_; clear hK K) | clear hK K)
    refine W.loopF (T := fun i : Nat => { t := [(0, tbT a), (1, tbT b), (5, ft (.int .i64 (i : Nat)))], h := [], nx := 0, ex := [], nt := 26 })
      (Inv := fun i => i ≤ a.length ∧ a.take i = b.take i) (μ := fun i => a.length - i) (x0 := 0) (Fits.fit [] [0, 1, 5] 0 rfl rfl ?_) ⟨Nat.zero_le _, rfl⟩ ?_
    · simp only [go_sem]
      exact Fits.rfl
    rintro i ⟨hi, hinv⟩ KL hKL
    by_cases hlt : i < a.length
    · obtain ⟨x, hx, hm, hd⟩ := drop_at hlt
      obtain ⟨y, hy, hm2, hd2⟩ := drop_at (show i < b.length by omega)
      have e1 : decide ((i : Int) < a.length) = true := by simp; omega
      have e2 : decide (i < a.length) = true := by simp; omega
      have e3 : decide (i < b.length) = true := by simp; omega
      have hw := w64s i (by omega)
      have hE := fun w => eqEn x y w
      by_cases hxy : x = y
      · rw [decide_eq_true hxy] at hE
        repeat' (first | refine W.seq fun K hK => ?_ | refine W.block ?_ | ((first | refine wR ?_ | refine wD ?_ | refine W.skip ?_ | refine W.exit ?_ | refine W.ret (Post.ret ?_) | refine aP ?_ | refine aF ?_ | refine aE ?_ | refine aQ ?_); simp only [go_sem, reduceCtorEq, List.getElem?_map, hx, hy, enA, e1, e2, e3, hw, List.length_map]) | refine wT ?_ | refine wF ?_ | refine wC (fun h => ?_) (fun h => ?_) | refine iK ?_ | refine aI2 ?_ | (refine hK _ ?_; clear hK K) | clear hK K)
        refine hKL.to (i + 1) ⟨by omega, by rw [List.take_add_one, List.take_add_one, hx, hy, hinv, hxy]⟩ (by omega) (Fits.fit [] [0, 1, 5] 0 rfl rfl ?_)
        simp only [go_sem]
        exact Fits.rfl
      · rw [decide_eq_false hxy] at hE
        have hno : decide (a = b) = false := by
          rw [decide_eq_false_iff_not]
          rintro rfl
          rw [hx] at hy
          cases hy
          exact hxy rfl
        clear hKL
        rw [hno]
        repeat' (first | refine W.seq fun K hK => ?_ | refine W.block ?_ | ((first | refine wR ?_ | refine wD ?_ | refine W.skip ?_ | refine W.exit ?_ | refine W.ret (Post.ret ?_) | refine aP ?_ | refine aF ?_ | refine aE ?_ | refine aQ ?_); simp only [go_sem, reduceCtorEq, List.getElem?_map, hx, hy, enA, e1, e2, e3, hw, List.length_map]) | refine wT ?_ | refine wF ?_ | refine wC (fun h => ?_) (fun h => ?_) | refine iK ?_ | refine aI2 ?_ | (refine hK _ ?_; clear hK K) | clear hK K)
    · obtain rfl : i = a.length := by omega
      have e1 : decide ((a.length : Int) < a.length) = false := by simp
      have hyes : decide (a = b) = true := by
        rw [decide_eq_true_eq]
        rw [List.take_length, hl, List.take_length] at hinv
        exact hinv
      clear hKL
      repeat' (first | refine W.seq fun K hK => ?_ | refine W.block ?_ | ((first | refine wR ?_ | refine wD ?_ | refine W.skip ?_ | refine W.exit ?_ | refine W.ret (Post.ret ?_) | refine aP ?_ | refine aF ?_ | refine aE ?_ | refine aQ ?_); simp only [go_sem, reduceCtorEq, List.length_map, e1]) | refine wT ?_ | refine wF ?_ | refine wC (fun h => ?_) (fun h => ?_) | refine iK ?_ | refine aI2 ?_ | (refine hK _ ?_; clear hK K) | clear hK K)
      rw [hyes]
  · have e0 : (((a.length : Nat) : Int) != ((b.length : Nat) : Int)) = true := by simp; omega
    have hno : decide (a = b) = false := by
      rw [decide_eq_false_iff_not]
      exact fun e => hl (by rw [e])
    rw [hno]
    refine PCall.intro (nt := 26) (rs := [.tmp 4]) Tryz.func17 rfl ⟨by kernel_rfl, by kernel_rfl, by kernel_rfl⟩ (by simp) ?_
    rintro ⟨P, w0, ok0, may, np, pblk⟩ rfl rfl
    repeat' (first | refine W.seq fun K hK => ?_ | refine W.block ?_ | ((first | refine wR ?_ | refine wD ?_ | refine W.skip ?_ | refine W.exit ?_ | refine W.ret (Post.ret ?_) | refine aP ?_ | refine aF ?_ | refine aE ?_ | refine aQ ?_); simp only [go_sem, reduceCtorEq, List.length_map, e0]) | refine wT ?_ | refine wF ?_ | refine wC (fun h => ?_) (fun h => ?_) | refine iK ?_ | refine aI2 ?_ | (refine hK _ ?_; clear hK K) | clear hK K)
theorem equal66_c (a b : List En) : PCall Tryz.prog 66 [tbT a, tbT b] (ft (.bool (decide (a = b)))) := by
  have hG := eqG65
  by_cases hl : a.length = b.length
  · have e0 : (((a.length : Nat) : Int) != ((b.length : Nat) : Int)) = false := by simp [hl]
    refine PCall.intro (nt := 26) (rs := [.tmp 4]) Tryz.func66 rfl ⟨by kernel_rfl, by kernel_rfl, by kernel_rfl⟩ (by simp) ?_
    rintro ⟨P, w0, ok0, may, np, pblk⟩ rfl rfl
    refine W.lenIm 0 rfl fun hlen => ?_
    rw [List.length_map, maxLen_is] at hlen
    repeat' (first | refine W.seq fun K hK => ?_ | refine W.block ?_ | ((first | refine wR ?_ | refine wD ?_ | refine W.skip ?_ | refine W.exit ?_ | refine W.ret (Post.ret ?_) | refine aP ?_ | refine aF ?_ | refine aE ?_ | refine aQ ?_); simp only [go_sem, reduceCtorEq, List.length_map, e0]) | refine wT ?_ | refine wF ?_ | refine wC (fun h => ?_) (fun h => ?_) | refine iK ?_ | refine aI2 ?_ | (refine hK _ ?_; clear hK K) | clear hK K)
    refine W.loopF (T := fun i : Nat => { t := [(0, tbT a), (1, tbT b), (12, ft (.int .i64 a.length)), (13, ft (.int .i64 (i : Nat)))], h := [], nx := 0, ex := [], nt := 26 })
      (Inv := fun i => i ≤ a.length ∧ a.take i = b.take i) (μ := fun i => a.length - i) (x0 := 0) (Fits.fit [] [0, 1, 12, 13] 0 rfl rfl ?_) ⟨Nat.zero_le _, rfl⟩ ?_
    · simp only [go_sem]
      exact Fits.rfl
    rintro i ⟨hi, hinv⟩ KL hKL
    by_cases hlt : i < a.length
    · obtain ⟨x, hx, hm, hd⟩ := drop_at hlt
      obtain ⟨y, hy, hm2, hd2⟩ := drop_at (show i < b.length by omega)
      have e1 : decide ((i : Int) < a.length) = true := by simp; omega
      have e2 : decide (i < a.length) = true := by simp; omega
      have e3 : decide (i < b.length) = true := by simp; omega
      have hw := w64s i (by omega)
      have hE := fun w => eqEn x y w
      by_cases hxy : x = y
      · rw [decide_eq_true hxy] at hE
        repeat' (first | refine W.seq fun K hK => ?_ | refine W.block ?_ | ((first | refine wR ?_ | refine wD ?_ | refine W.skip ?_ | refine W.exit ?_ | refine W.ret (Post.ret ?_) | refine aP ?_ | refine aF ?_ | refine aE ?_ | refine aQ ?_); simp only [go_sem, reduceCtorEq, List.getElem?_map, hx, hy, enA, e1, e2, e3, hw, List.length_map]) | refine wT ?_ | refine wF ?_ | refine wC (fun h => ?_) (fun h => ?_) | refine iK ?_ | refine aI2 ?_ | (refine hK _ ?_; clear hK K) | clear hK K)
        refine hKL.to (i + 1) ⟨by omega, by rw [List.take_add_one, List.take_add_one, hx, hy, hinv, hxy]⟩ (by omega) (Fits.fit [] [0, 1, 12, 13] 0 rfl rfl ?_)
        simp only [go_sem]
        exact Fits.rfl
      · rw [decide_eq_false hxy] at hE
        have hno : decide (a = b) = false := by
          rw [decide_eq_false_iff_not]
          rintro rfl
          rw [hx] at hy
          cases hy
          exact hxy rfl
        clear hKL
        rw [hno]
        repeat' (first | refine W.seq fun K hK => ?_ | refine W.block ?_ | ((first | refine wR ?_ | refine wD ?_ | refine W.skip ?_ | refine W.exit ?_ | refine W.ret (Post.ret ?_) | refine aP ?_ | refine aF ?_ | refine aE ?_ | refine aQ ?_); simp only [go_sem, reduceCtorEq, List.getElem?_map, hx, hy, enA, e1, e2, e3, hw, List.length_map]) | refine wT ?_ | refine wF ?_ | refine wC (fun h => ?_) (fun h => ?_) | refine iK ?_ | refine aI2 ?_ | (refine hK _ ?_; clear hK K) | clear hK K)
    · obtain rfl : i = a.length := by omega
      have e1 : decide ((a.length : Int) < a.length) = false := by simp
      have hyes : decide (a = b) = true := by
        rw [decide_eq_true_eq]
        rw [List.take_length, hl, List.take_length] at hinv
        exact hinv
      clear hKL
      repeat' (first | refine W.seq fun K hK => ?_ | refine W.block ?_ | ((first | refine wR ?_ | refine wD ?_ | refine W.skip ?_ | refine W.exit ?_ | refine W.ret (Post.ret ?_) | refine aP ?_ | refine aF ?_ | refine aE ?_ | refine aQ ?_); simp only [go_sem, reduceCtorEq, List.length_map, e1]) | refine wT ?_ | refine wF ?_ | refine wC (fun h => ?_) (fun h => ?_) | refine iK ?_ | refine aI2 ?_ | (refine hK _ ?_; clear hK K) | clear hK K)
      rw [hyes]
  · have e0 : (((a.length : Nat) : Int) != ((b.length : Nat) : Int)) = true := by simp; omega
    have hno : decide (a = b) = false := by
      rw [decide_eq_false_iff_not]
      exact fun e => hl (by rw [e])
    rw [hno]
    refine PCall.intro (nt := 26) (rs := [.tmp 4]) Tryz.func66 rfl ⟨by kernel_rfl, by kernel_rfl, by kernel_rfl⟩ (by simp) ?_
    rintro ⟨P, w0, ok0, may, np, pblk⟩ rfl rfl
    repeat' (first | refine W.seq fun K hK => ?_ | refine W.block ?_ | ((first | refine wR ?_ | refine wD ?_ | refine W.skip ?_ | refine W.exit ?_ | refine W.ret (Post.ret ?_) | refine aP ?_ | refine aF ?_ | refine aE ?_ | refine aQ ?_); simp only [go_sem, reduceCtorEq, List.length_map, e0]) | refine wT ?_ | refine wF ?_ | refine wC (fun h => ?_) (fun h => ?_) | refine iK ?_ | refine aI2 ?_ | (refine hK _ ?_; clear hK K) | clear hK K)
theorem equalT_c (a b : List En) : PCall Tryz.prog 30 [tbT a, tbT b] (ft (.bool (decide (a = b)))) := by
  have c1 := equal66_c a b
  refine PCall.intro (nt := 8) (rs := [.tmp 4]) Tryz.func30 rfl ⟨by kernel_rfl, by kernel_rfl, by kernel_rfl⟩ (by simp) ?_
  rintro ⟨P, w0, ok0, may, np, pblk⟩ rfl rfl
  repeat' (first | refine W.seq fun K hK => ?_ | refine W.block ?_ | ((first | refine wR ?_ | refine wD ?_ | refine W.skip ?_ | refine W.exit ?_ | refine W.ret (Post.ret ?_) | refine aP ?_ | refine aF ?_ | refine aE ?_ | refine aQ ?_); simp only [go_sem, reduceCtorEq]) | refine wT ?_ | refine wF ?_ | refine wC (fun h => ?_) (fun h => ?_) | refine iK ?_ | refine aI2 ?_ | (refine hK _ ?_; clear hK K) | clear hK K)
/-! ### the check of a table -/
abbrev MT : Int := 4503599627370496
def rngE (e : En) : Bool := decide (e.sp < 0) || decide (e.sp > MT) || decide (e.er < 0) || decide (e.er > e.sp) || decide (e.og < 0) || decide (e.og > e.er) || decide (e.ti < 0) || decide (e.ti > MT)
def ordE (t : List En) : Nat → Bool
  | 0 => false
  | i + 1 => match t[i]?, t[i + 1]? with
    | some p, some e => decide (cmpKy p.k e.k ≥ 0)
    | _, _ => false
def err1 (t : List En) (i : Nat) : Int := match t[i]? with
  | none => 0
  | some e => if ordE t i then 8 else if e.emp then 7 else if rngE e then 2 else 0
def firstE (t : List En) : Nat → Nat → Int
  | 0, _ => 0
  | n + 1, i => if err1 t i = 0 then firstE t n (i + 1) else err1 t i
def ovT (t : List En) (n : Nat) : Int := (t.take n).foldl (fun m e => IntKind.i64.wrap (m + e.ti)) 0
def ovS (t : List En) (n : Nat) : Int := (t.take n).foldl (fun m e => IntKind.i64.wrap (m + e.sp)) 0
def ovB (t : List En) (i : Nat) : Bool := decide (ovT t (i + 1) > MT) || decide (ovS t (i + 1) > MT)
def ovE (t : List En) : Nat → Nat → Int
  | 0, _ => 0
  | n + 1, i => if ovB t i then 20 else ovE t n (i + 1)
def chkT (t : List En) : Int := if firstE t t.length 0 = 0 then ovE t t.length 0 else firstE t t.length 0
theorem ovT_step {t : List En} {i : Nat} {e : En} (h : t[i]? = some e) : ovT t (i + 1) = IntKind.i64.wrap (ovT t i + e.ti) := by simp [ovT, List.take_add_one, h]
theorem ovS_step {t : List En} {i : Nat} {e : En} (h : t[i]? = some e) : ovS t (i + 1) = IntKind.i64.wrap (ovS t i + e.sp) := by simp [ovS, List.take_add_one, h]
theorem firstE_at {t : List En} {i : Nat} (hi : i < t.length) : firstE t (t.length - i) i = if err1 t i = 0 then firstE t (t.length - (i + 1)) (i + 1) else err1 t i := by
  obtain ⟨n, hn⟩ : ∃ n, t.length - i = n + 1 := ⟨t.length - i - 1, by omega⟩
  rw [hn, firstE, show t.length - (i + 1) = n by omega]
theorem ovE_at {t : List En} {i : Nat} (hi : i < t.length) : ovE t (t.length - i) i = if ovB t i then 20 else ovE t (t.length - (i + 1)) (i + 1) := by
  obtain ⟨n, hn⟩ : ∃ n, t.length - i = n + 1 := ⟨t.length - i - 1, by omega⟩
  rw [hn, ovE, show t.length - (i + 1) = n by omega]
theorem max_gt (a b c : Int) : decide ((if b > a then b else a) > c) = (decide (a > c) || decide (b > c)) := by
  rw [Bool.eq_iff_iff, Bool.or_eq_true, decide_eq_true_eq, decide_eq_true_eq, decide_eq_true_eq]
  split <;> omega
theorem check26_c (t : List En) : PCall Tryz.prog 26 [tbT t] (ft (.int .i64 (chkT t))) := by
  have ce := empty_c
  have ck := compareKeys_c
  refine PCall.intro (nt := 97) (rs := [.tmp 2]) Tryz.func26 rfl ⟨by kernel_rfl, by kernel_rfl, by kernel_rfl⟩ (by simp) ?_
  rintro ⟨P, w0, ok0, may, np, pblk⟩ rfl rfl
  refine W.lenIm 0 rfl fun hlen => ?_
  rw [List.length_map, maxLen_is] at hlen
  repeat' (first | refine W.seq fun K hK => ?_ | refine W.block ?_ | ((first | refine wR ?_ | refine wD ?_ | refine W.skip ?_ | refine W.exit ?_ | refine W.ret (Post.ret ?_) | refine aP ?_ | refine aF ?_); simp only [go_sem, reduceCtorEq, List.length_map]) | refine wT ?_ | refine wF ?_ | refine wC (fun h => ?_) (fun h => ?_) | refine iK ?_ | refine aI2 ?_ | (refine hK _ ?_; clear hK K) | clear hK K)
  refine W.loopF (T := fun i : Nat => { t := [(0, tbT t), (9, tbT t), (10, ft (.int .i64 t.length)), (11, ft (.int .i64 (i : Nat)))], h := [], nx := 0, ex := [], nt := 97 })
    (Inv := fun i => i ≤ t.length ∧ firstE t t.length 0 = firstE t (t.length - i) i) (μ := fun i => t.length - i) (x0 := 0) (Fits.fit [] [0, 9, 10, 11] 0 rfl rfl ?_) ⟨Nat.zero_le _, rfl⟩ ?_
  · simp only [go_sem]
    exact Fits.rfl
  rintro i ⟨hi, hinv⟩ KL hKL
  by_cases hlt : i < t.length
  · obtain ⟨e, he, hm, hd⟩ := drop_at hlt
    have e1 : decide ((i : Int) < t.length) = true := by simp; omega
    have e2 : decide (i < t.length) = true := by simp; omega
    have hw := w64s i (by omega)
    rw [firstE_at hlt] at hinv
    have hc := ce e
    simp only [enT, enA, List.map] at hc
    clear ce
    have hr : err1 t i = if ordE t i then 8 else if e.emp then 7 else if rngE e then 2 else 0 := by unfold err1; rw [he]
    have fin : ∀ c : Int, c ≠ 0 → err1 t i = c → chkT t = c := fun c h0 h => by unfold chkT; rw [hinv, h, if_neg h0, if_neg h0]
    have goon : err1 t i = 0 → firstE t t.length 0 = firstE t (t.length - (i + 1)) (i + 1) := fun h => by rw [hinv, if_pos h]
    clear hinv
    have hR : ∀ K2 : Prop, (rngE e = true → K2) → (rngE e = false → K2) → K2 := fun K2 h1 h2 => by
      cases h : rngE e
      · exact h2 h
      · exact h1 h
    rcases i with _ | i
    · have ho : ordE t 0 = false := rfl
      rw [ho] at hr
      simp only [Bool.false_eq_true, if_false] at hr
      have i0 : decide (((0 : Nat) : Int) > 0) = false := by simp
      cases h7 : e.emp
      · rw [h7] at hc hr
        simp only [Bool.false_eq_true, if_false] at hr
        cases r0 : decide (e.sp < 0)
        · skip
          cases r1 : decide (e.sp > MT)
          · skip
            cases r2 : decide (e.er < 0)
            · skip
              cases r3 : decide (e.er > e.sp)
              · skip
                cases r4 : decide (e.og < 0)
                · skip
                  cases r5 : decide (e.og > e.er)
                  · skip
                    cases r6 : decide (e.ti < 0)
                    · skip
                      cases r7 : decide (e.ti > MT)
                      · skip
                        have hg0 : rngE e = false := by unfold rngE; rw [r0, r1, r2, r3, r4, r5, r6, r7]; rfl
                        rw [hg0] at hr
                        simp only [Bool.false_eq_true, if_false] at hr
                        repeat' (first | refine W.seq fun K hK => ?_ | refine W.block ?_ | ((first | refine wR ?_ | refine wD ?_ | refine W.skip ?_ | refine W.exit ?_ | refine W.ret (Post.ret ?_) | refine aP ?_ | refine aF ?_); simp only [go_sem, reduceCtorEq, List.getElem?_map, he, enA, e1, e2, hw, i0, r0, r1, r2, r3, r4, r5, r6, r7, List.length_map]) | refine wT ?_ | refine wF ?_ | refine wC (fun h => ?_) (fun h => ?_) | refine iK ?_ | refine aI2 ?_ | (refine hK _ ?_; clear hK K) | clear hK K)
                        refine hKL.to (0 + 1) ⟨by omega, goon hr⟩ (by omega) (Fits.fit [] [0, 9, 10, 11] 0 rfl rfl ?_)
                        simp only [go_sem]
                        exact Fits.rfl
                      · have hg1 : rngE e = true := by unfold rngE; rw [r7]; simp
                        rw [hg1] at hr
                        simp only [if_true] at hr
                        rw [fin 2 (by decide) hr]
                        clear hKL
                        repeat' (first | refine W.seq fun K hK => ?_ | refine W.block ?_ | ((first | refine wR ?_ | refine wD ?_ | refine W.skip ?_ | refine W.exit ?_ | refine W.ret (Post.ret ?_) | refine aP ?_ | refine aF ?_); simp only [go_sem, reduceCtorEq, List.getElem?_map, he, enA, e1, e2, hw, i0, r0, r1, r2, r3, r4, r5, r6, r7, List.length_map]) | refine wT ?_ | refine wF ?_ | refine wC (fun h => ?_) (fun h => ?_) | refine iK ?_ | refine aI2 ?_ | (refine hK _ ?_; clear hK K) | clear hK K)
                    · have hg1 : rngE e = true := by unfold rngE; rw [r6]; simp
                      rw [hg1] at hr
                      simp only [if_true] at hr
                      rw [fin 2 (by decide) hr]
                      clear hKL
                      repeat' (first | refine W.seq fun K hK => ?_ | refine W.block ?_ | ((first | refine wR ?_ | refine wD ?_ | refine W.skip ?_ | refine W.exit ?_ | refine W.ret (Post.ret ?_) | refine aP ?_ | refine aF ?_); simp only [go_sem, reduceCtorEq, List.getElem?_map, he, enA, e1, e2, hw, i0, r0, r1, r2, r3, r4, r5, r6, List.length_map]) | refine wT ?_ | refine wF ?_ | refine wC (fun h => ?_) (fun h => ?_) | refine iK ?_ | refine aI2 ?_ | (refine hK _ ?_; clear hK K) | clear hK K)
                  · have hg1 : rngE e = true := by unfold rngE; rw [r5]; simp
                    rw [hg1] at hr
                    simp only [if_true] at hr
                    rw [fin 2 (by decide) hr]
                    clear hKL
                    repeat' (first | refine W.seq fun K hK => ?_ | refine W.block ?_ | ((first | refine wR ?_ | refine wD ?_ | refine W.skip ?_ | refine W.exit ?_ | refine W.ret (Post.ret ?_) | refine aP ?_ | refine aF ?_); simp only [go_sem, reduceCtorEq, List.getElem?_map, he, enA, e1, e2, hw, i0, r0, r1, r2, r3, r4, r5, List.length_map]) | refine wT ?_ | refine wF ?_ | refine wC (fun h => ?_) (fun h => ?_) | refine iK ?_ | refine aI2 ?_ | (refine hK _ ?_; clear hK K) | clear hK K)
                · have hg1 : rngE e = true := by unfold rngE; rw [r4]; simp
                  rw [hg1] at hr
                  simp only [if_true] at hr
                  rw [fin 2 (by decide) hr]
                  clear hKL
                  repeat' (first | refine W.seq fun K hK => ?_ | refine W.block ?_ | ((first | refine wR ?_ | refine wD ?_ | refine W.skip ?_ | refine W.exit ?_ | refine W.ret (Post.ret ?_) | refine aP ?_ | refine aF ?_); simp only [go_sem, reduceCtorEq, List.getElem?_map, he, enA, e1, e2, hw, i0, r0, r1, r2, r3, r4, List.length_map]) | refine wT ?_ | refine wF ?_ | refine wC (fun h => ?_) (fun h => ?_) | refine iK ?_ | refine aI2 ?_ | (refine hK _ ?_; clear hK K) | clear hK K)
              · have hg1 : rngE e = true := by unfold rngE; rw [r3]; simp
                rw [hg1] at hr
                simp only [if_true] at hr
                rw [fin 2 (by decide) hr]
                clear hKL
                repeat' (first | refine W.seq fun K hK => ?_ | refine W.block ?_ | ((first | refine wR ?_ | refine wD ?_ | refine W.skip ?_ | refine W.exit ?_ | refine W.ret (Post.ret ?_) | refine aP ?_ | refine aF ?_); simp only [go_sem, reduceCtorEq, List.getElem?_map, he, enA, e1, e2, hw, i0, r0, r1, r2, r3, List.length_map]) | refine wT ?_ | refine wF ?_ | refine wC (fun h => ?_) (fun h => ?_) | refine iK ?_ | refine aI2 ?_ | (refine hK _ ?_; clear hK K) | clear hK K)
            · have hg1 : rngE e = true := by unfold rngE; rw [r2]; simp
              rw [hg1] at hr
              simp only [if_true] at hr
              rw [fin 2 (by decide) hr]
              clear hKL
              repeat' (first | refine W.seq fun K hK => ?_ | refine W.block ?_ | ((first | refine wR ?_ | refine wD ?_ | refine W.skip ?_ | refine W.exit ?_ | refine W.ret (Post.ret ?_) | refine aP ?_ | refine aF ?_); simp only [go_sem, reduceCtorEq, List.getElem?_map, he, enA, e1, e2, hw, i0, r0, r1, r2, List.length_map]) | refine wT ?_ | refine wF ?_ | refine wC (fun h => ?_) (fun h => ?_) | refine iK ?_ | refine aI2 ?_ | (refine hK _ ?_; clear hK K) | clear hK K)
          · have hg1 : rngE e = true := by unfold rngE; rw [r1]; simp
            rw [hg1] at hr
            simp only [if_true] at hr
            rw [fin 2 (by decide) hr]
            clear hKL
            repeat' (first | refine W.seq fun K hK => ?_ | refine W.block ?_ | ((first | refine wR ?_ | refine wD ?_ | refine W.skip ?_ | refine W.exit ?_ | refine W.ret (Post.ret ?_) | refine aP ?_ | refine aF ?_); simp only [go_sem, reduceCtorEq, List.getElem?_map, he, enA, e1, e2, hw, i0, r0, r1, List.length_map]) | refine wT ?_ | refine wF ?_ | refine wC (fun h => ?_) (fun h => ?_) | refine iK ?_ | refine aI2 ?_ | (refine hK _ ?_; clear hK K) | clear hK K)
        · have hg1 : rngE e = true := by unfold rngE; rw [r0]; simp
          rw [hg1] at hr
          simp only [if_true] at hr
          rw [fin 2 (by decide) hr]
          clear hKL
          repeat' (first | refine W.seq fun K hK => ?_ | refine W.block ?_ | ((first | refine wR ?_ | refine wD ?_ | refine W.skip ?_ | refine W.exit ?_ | refine W.ret (Post.ret ?_) | refine aP ?_ | refine aF ?_); simp only [go_sem, reduceCtorEq, List.getElem?_map, he, enA, e1, e2, hw, i0, r0, List.length_map]) | refine wT ?_ | refine wF ?_ | refine wC (fun h => ?_) (fun h => ?_) | refine iK ?_ | refine aI2 ?_ | (refine hK _ ?_; clear hK K) | clear hK K)
      · rw [h7] at hc hr
        simp only [if_true] at hr
        rw [fin 7 (by decide) hr]
        clear hKL
        repeat' (first | refine W.seq fun K hK => ?_ | refine W.block ?_ | ((first | refine wR ?_ | refine wD ?_ | refine W.skip ?_ | refine W.exit ?_ | refine W.ret (Post.ret ?_) | refine aP ?_ | refine aF ?_); simp only [go_sem, reduceCtorEq, List.getElem?_map, he, enA, e1, e2, hw, i0, List.length_map]) | refine wT ?_ | refine wF ?_ | refine wC (fun h => ?_) (fun h => ?_) | refine iK ?_ | refine aI2 ?_ | (refine hK _ ?_; clear hK K) | clear hK K)
    · obtain ⟨p, hp, hpm, _⟩ := drop_at (show i < t.length by omega)
      have i0 : decide (((i + 1 : Nat) : Int) > 0) = true := by simp
      have hsub : IntKind.i64.wrap (((i + 1 : Nat) : Int) - 1) = (i : Nat) := by rw [w64 (by omega) (by omega)]; omega
      have e3 : decide (i < t.length) = true := by simp; omega
      have hck := ck p.k e.k
      simp only [kyT, kyA, List.map] at hck
      clear ck
      have ho : ordE t (i + 1) = decide (cmpKy p.k e.k ≥ 0) := by
        show (match t[i]?, t[i + 1]? with | some p, some e => decide (cmpKy p.k e.k ≥ 0) | _, _ => false) = _
        rw [hp, he]
      cases hg : decide (cmpKy p.k e.k ≥ 0)
      · rw [ho, hg] at hr
        simp only [Bool.false_eq_true, if_false] at hr
        cases h7 : e.emp
        · rw [h7] at hc hr
          simp only [Bool.false_eq_true, if_false] at hr
          cases r0 : decide (e.sp < 0)
          · skip
            cases r1 : decide (e.sp > MT)
            · skip
              cases r2 : decide (e.er < 0)
              · skip
                cases r3 : decide (e.er > e.sp)
                · skip
                  cases r4 : decide (e.og < 0)
                  · skip
                    cases r5 : decide (e.og > e.er)
                    · skip
                      cases r6 : decide (e.ti < 0)
                      · skip
                        cases r7 : decide (e.ti > MT)
                        · skip
                          have hg0 : rngE e = false := by unfold rngE; rw [r0, r1, r2, r3, r4, r5, r6, r7]; rfl
                          rw [hg0] at hr
                          simp only [Bool.false_eq_true, if_false] at hr
                          repeat' (first | refine W.seq fun K hK => ?_ | refine W.block ?_ | ((first | refine wR ?_ | refine wD ?_ | refine W.skip ?_ | refine W.exit ?_ | refine W.ret (Post.ret ?_) | refine aP ?_ | refine aF ?_); simp only [go_sem, reduceCtorEq, List.getElem?_map, he, hp, enA, e1, e2, e3, hw, i0, hsub, hg, r0, r1, r2, r3, r4, r5, r6, r7, List.length_map]) | refine wT ?_ | refine wF ?_ | refine wC (fun h => ?_) (fun h => ?_) | refine iK ?_ | refine aI2 ?_ | (refine hK _ ?_; clear hK K) | clear hK K)
                          refine hKL.to ((i + 1) + 1) ⟨by omega, goon hr⟩ (by omega) (Fits.fit [] [0, 9, 10, 11] 0 rfl rfl ?_)
                          simp only [go_sem]
                          exact Fits.rfl
                        · have hg1 : rngE e = true := by unfold rngE; rw [r7]; simp
                          rw [hg1] at hr
                          simp only [if_true] at hr
                          rw [fin 2 (by decide) hr]
                          clear hKL
                          repeat' (first | refine W.seq fun K hK => ?_ | refine W.block ?_ | ((first | refine wR ?_ | refine wD ?_ | refine W.skip ?_ | refine W.exit ?_ | refine W.ret (Post.ret ?_) | refine aP ?_ | refine aF ?_); simp only [go_sem, reduceCtorEq, List.getElem?_map, he, hp, enA, e1, e2, e3, hw, i0, hsub, hg, r0, r1, r2, r3, r4, r5, r6, r7, List.length_map]) | refine wT ?_ | refine wF ?_ | refine wC (fun h => ?_) (fun h => ?_) | refine iK ?_ | refine aI2 ?_ | (refine hK _ ?_; clear hK K) | clear hK K)
                      · have hg1 : rngE e = true := by unfold rngE; rw [r6]; simp
                        rw [hg1] at hr
                        simp only [if_true] at hr
                        rw [fin 2 (by decide) hr]
                        clear hKL
                        repeat' (first | refine W.seq fun K hK => ?_ | refine W.block ?_ | ((first | refine wR ?_ | refine wD ?_ | refine W.skip ?_ | refine W.exit ?_ | refine W.ret (Post.ret ?_) | refine aP ?_ | refine aF ?_); simp only [go_sem, reduceCtorEq, List.getElem?_map, he, hp, enA, e1, e2, e3, hw, i0, hsub, hg, r0, r1, r2, r3, r4, r5, r6, List.length_map]) | refine wT ?_ | refine wF ?_ | refine wC (fun h => ?_) (fun h => ?_) | refine iK ?_ | refine aI2 ?_ | (refine hK _ ?_; clear hK K) | clear hK K)
                    · have hg1 : rngE e = true := by unfold rngE; rw [r5]; simp
                      rw [hg1] at hr
                      simp only [if_true] at hr
                      rw [fin 2 (by decide) hr]
                      clear hKL
                      repeat' (first | refine W.seq fun K hK => ?_ | refine W.block ?_ | ((first | refine wR ?_ | refine wD ?_ | refine W.skip ?_ | refine W.exit ?_ | refine W.ret (Post.ret ?_) | refine aP ?_ | refine aF ?_); simp only [go_sem, reduceCtorEq, List.getElem?_map, he, hp, enA, e1, e2, e3, hw, i0, hsub, hg, r0, r1, r2, r3, r4, r5, List.length_map]) | refine wT ?_ | refine wF ?_ | refine wC (fun h => ?_) (fun h => ?_) | refine iK ?_ | refine aI2 ?_ | (refine hK _ ?_; clear hK K) | clear hK K)
                  · have hg1 : rngE e = true := by unfold rngE; rw [r4]; simp
                    rw [hg1] at hr
                    simp only [if_true] at hr
                    rw [fin 2 (by decide) hr]
                    clear hKL
                    repeat' (first | refine W.seq fun K hK => ?_ | refine W.block ?_ | ((first | refine wR ?_ | refine wD ?_ | refine W.skip ?_ | refine W.exit ?_ | refine W.ret (Post.ret ?_) | refine aP ?_ | refine aF ?_); simp only [go_sem, reduceCtorEq, List.getElem?_map, he, hp, enA, e1, e2, e3, hw, i0, hsub, hg, r0, r1, r2, r3, r4, List.length_map]) | refine wT ?_ | refine wF ?_ | refine wC (fun h => ?_) (fun h => ?_) | refine iK ?_ | refine aI2 ?_ | (refine hK _ ?_; clear hK K) | clear hK K)
                · have hg1 : rngE e = true := by unfold rngE; rw [r3]; simp
                  rw [hg1] at hr
                  simp only [if_true] at hr
                  rw [fin 2 (by decide) hr]
                  clear hKL
                  repeat' (first | refine W.seq fun K hK => ?_ | refine W.block ?_ | ((first | refine wR ?_ | refine wD ?_ | refine W.skip ?_ | refine W.exit ?_ | refine W.ret (Post.ret ?_) | refine aP ?_ | refine aF ?_); simp only [go_sem, reduceCtorEq, List.getElem?_map, he, hp, enA, e1, e2, e3, hw, i0, hsub, hg, r0, r1, r2, r3, List.length_map]) | refine wT ?_ | refine wF ?_ | refine wC (fun h => ?_) (fun h => ?_) | refine iK ?_ | refine aI2 ?_ | (refine hK _ ?_; clear hK K) | clear hK K)
              · have hg1 : rngE e = true := by unfold rngE; rw [r2]; simp
                rw [hg1] at hr
                simp only [if_true] at hr
                rw [fin 2 (by decide) hr]
                clear hKL
                repeat' (first | refine W.seq fun K hK => ?_ | refine W.block ?_ | ((first | refine wR ?_ | refine wD ?_ | refine W.skip ?_ | refine W.exit ?_ | refine W.ret (Post.ret ?_) | refine aP ?_ | refine aF ?_); simp only [go_sem, reduceCtorEq, List.getElem?_map, he, hp, enA, e1, e2, e3, hw, i0, hsub, hg, r0, r1, r2, List.length_map]) | refine wT ?_ | refine wF ?_ | refine wC (fun h => ?_) (fun h => ?_) | refine iK ?_ | refine aI2 ?_ | (refine hK _ ?_; clear hK K) | clear hK K)
            · have hg1 : rngE e = true := by unfold rngE; rw [r1]; simp
              rw [hg1] at hr
              simp only [if_true] at hr
              rw [fin 2 (by decide) hr]
              clear hKL
              repeat' (first | refine W.seq fun K hK => ?_ | refine W.block ?_ | ((first | refine wR ?_ | refine wD ?_ | refine W.skip ?_ | refine W.exit ?_ | refine W.ret (Post.ret ?_) | refine aP ?_ | refine aF ?_); simp only [go_sem, reduceCtorEq, List.getElem?_map, he, hp, enA, e1, e2, e3, hw, i0, hsub, hg, r0, r1, List.length_map]) | refine wT ?_ | refine wF ?_ | refine wC (fun h => ?_) (fun h => ?_) | refine iK ?_ | refine aI2 ?_ | (refine hK _ ?_; clear hK K) | clear hK K)
          · have hg1 : rngE e = true := by unfold rngE; rw [r0]; simp
            rw [hg1] at hr
            simp only [if_true] at hr
            rw [fin 2 (by decide) hr]
            clear hKL
            repeat' (first | refine W.seq fun K hK => ?_ | refine W.block ?_ | ((first | refine wR ?_ | refine wD ?_ | refine W.skip ?_ | refine W.exit ?_ | refine W.ret (Post.ret ?_) | refine aP ?_ | refine aF ?_); simp only [go_sem, reduceCtorEq, List.getElem?_map, he, hp, enA, e1, e2, e3, hw, i0, hsub, hg, r0, List.length_map]) | refine wT ?_ | refine wF ?_ | refine wC (fun h => ?_) (fun h => ?_) | refine iK ?_ | refine aI2 ?_ | (refine hK _ ?_; clear hK K) | clear hK K)
        · rw [h7] at hc hr
          simp only [if_true] at hr
          rw [fin 7 (by decide) hr]
          clear hKL
          repeat' (first | refine W.seq fun K hK => ?_ | refine W.block ?_ | ((first | refine wR ?_ | refine wD ?_ | refine W.skip ?_ | refine W.exit ?_ | refine W.ret (Post.ret ?_) | refine aP ?_ | refine aF ?_); simp only [go_sem, reduceCtorEq, List.getElem?_map, he, hp, enA, e1, e2, e3, hw, i0, hsub, hg, List.length_map]) | refine wT ?_ | refine wF ?_ | refine wC (fun h => ?_) (fun h => ?_) | refine iK ?_ | refine aI2 ?_ | (refine hK _ ?_; clear hK K) | clear hK K)
      · rw [ho, hg] at hr
        simp only [if_true] at hr
        rw [fin 8 (by decide) hr]
        clear hKL
        repeat' (first | refine W.seq fun K hK => ?_ | refine W.block ?_ | ((first | refine wR ?_ | refine wD ?_ | refine W.skip ?_ | refine W.exit ?_ | refine W.ret (Post.ret ?_) | refine aP ?_ | refine aF ?_); simp only [go_sem, reduceCtorEq, List.getElem?_map, he, hp, enA, e1, e2, e3, hw, i0, hsub, hg, List.length_map]) | refine wT ?_ | refine wF ?_ | refine wC (fun h => ?_) (fun h => ?_) | refine iK ?_ | refine aI2 ?_ | (refine hK _ ?_; clear hK K) | clear hK K)
  · obtain rfl : i = t.length := by omega
    have e1 : decide ((t.length : Int) < t.length) = false := by simp
    have h0 : firstE t t.length 0 = 0 := by rw [hinv, Nat.sub_self]; rfl
    have hchk : chkT t = ovE t t.length 0 := by unfold chkT; rw [if_pos h0]
    clear hKL ce ck hinv
    repeat' (first | refine W.seq fun K hK => ?_ | refine W.block ?_ | ((first | refine wR ?_ | refine wD ?_ | refine W.skip ?_ | refine W.exit ?_ | refine W.ret (Post.ret ?_) | refine aP ?_ | refine aF ?_); simp only [go_sem, reduceCtorEq, e1, List.length_map]) | refine wT ?_ | refine wF ?_ | refine wC (fun h => ?_) (fun h => ?_) | refine iK ?_ | refine aI2 ?_ | (refine hK _ ?_; clear hK K) | clear hK K)
    refine W.loopF (T := fun i : Nat => { t := [(5, ft (.int .i64 (ovT t i))), (6, ft (.int .i64 (ovS t i))), (78, tbT t), (79, ft (.int .i64 t.length)), (80, ft (.int .i64 (i : Nat)))], h := [], nx := 0, ex := [], nt := 97 })
      (Inv := fun i => i ≤ t.length ∧ ovE t t.length 0 = ovE t (t.length - i) i) (μ := fun i => t.length - i) (x0 := 0) (Fits.fit [] [5, 6, 78, 79, 80] 0 rfl rfl ?_) ⟨Nat.zero_le _, rfl⟩ ?_
    · simp only [go_sem]
      exact Fits.rfl
    rintro i ⟨hi, hinv⟩ KJ hKJ
    by_cases hlt : i < t.length
    · obtain ⟨e, he, hm, hd⟩ := drop_at hlt
      have f1 : decide ((i : Int) < t.length) = true := by simp; omega
      have hw := w64s i (by omega)
      have hT := ovT_step he
      have hS := ovS_step he
      have hmx := max_gt (ovT t (i + 1)) (ovS t (i + 1)) MT
      rw [ovE_at hlt] at hinv
      cases hb : ovB t i
      · rw [hb] at hinv
        unfold ovB at hb
        rw [hb, hT, hS] at hmx
        repeat' (first | refine W.seq fun K hK => ?_ | refine W.block ?_ | ((first | refine wR ?_ | refine wD ?_ | refine W.skip ?_ | refine W.exit ?_ | refine W.ret (Post.ret ?_) | refine aP ?_ | refine aF ?_); simp only [go_sem, reduceCtorEq, List.getElem?_map, he, enA, f1, hw, hmx]) | refine wT ?_ | refine wF ?_ | refine wC (fun h => ?_) (fun h => ?_) | refine iK ?_ | refine aI2 ?_ | (refine hK _ ?_; clear hK K) | clear hK K)
        refine hKJ.to (i + 1) ⟨by omega, by rw [hinv]; simp⟩ (by omega) (Fits.fit [] [5, 6, 78, 79, 80] 0 rfl rfl ?_)
        simp only [go_sem, hT, hS]
        exact Fits.rfl
      · rw [hb, if_pos rfl] at hinv
        unfold ovB at hb
        rw [hb, hT, hS] at hmx
        clear hKJ
        rw [hchk, hinv]
        repeat' (first | refine W.seq fun K hK => ?_ | refine W.block ?_ | ((first | refine wR ?_ | refine wD ?_ | refine W.skip ?_ | refine W.exit ?_ | refine W.ret (Post.ret ?_) | refine aP ?_ | refine aF ?_); simp only [go_sem, reduceCtorEq, List.getElem?_map, he, enA, f1, hw, hmx]) | refine wT ?_ | refine wF ?_ | refine wC (fun h => ?_) (fun h => ?_) | refine iK ?_ | refine aI2 ?_ | (refine hK _ ?_; clear hK K) | clear hK K)
    · obtain rfl : i = t.length := by omega
      have f1 : decide ((t.length : Int) < t.length) = false := by simp
      have h9 : ovE t t.length 0 = 0 := by rw [hinv, Nat.sub_self]; rfl
      clear hKJ
      repeat' (first | refine W.seq fun K hK => ?_ | refine W.block ?_ | ((first | refine wR ?_ | refine wD ?_ | refine W.skip ?_ | refine W.exit ?_ | refine W.ret (Post.ret ?_) | refine aP ?_ | refine aF ?_); simp only [go_sem, reduceCtorEq, f1]) | refine wT ?_ | refine wF ?_ | refine wC (fun h => ?_) (fun h => ?_) | refine iK ?_ | refine aI2 ?_ | (refine hK _ ?_; clear hK K) | clear hK K)
      rw [hchk, h9]
def rgd (n m : Int) : Bool := decide (n ≥ 0) && decide (n ≤ (if MT < m then MT else m))
theorem rgd_is (e : En) : (!rgd e.ti MT || !rgd e.sp MT || !rgd e.er e.sp || !rgd e.og e.er) = rngE e := by
  unfold rgd rngE
  rw [Bool.eq_iff_iff]
  simp only [Bool.or_eq_true, Bool.not_eq_true', Bool.and_eq_false_iff, decide_eq_false_iff_not, decide_eq_true_eq]
  split <;> split <;> split <;> omega
theorem ranged_c (n m : Int) : PCall Tryz.prog 65 [ft (.int .i64 n), ft (.int .i64 m)] (ft (.bool (rgd n m))) := by
  unfold rgd
  cases h1 : decide (n ≥ 0)
  · skip
    refine PCall.intro (nt := 13) (rs := [.tmp 4]) Tryz.func65 rfl ⟨by kernel_rfl, by kernel_rfl, by kernel_rfl⟩ (by simp) ?_
    rintro ⟨P, w0, ok0, may, np, pblk⟩ rfl rfl
    repeat' (first | refine W.seq fun K hK => ?_ | refine W.block ?_ | ((first | refine wR ?_ | refine wD ?_ | refine W.skip ?_ | refine W.exit ?_ | refine W.ret (Post.ret ?_) | refine aP ?_ | refine aF ?_); simp only [go_sem, reduceCtorEq, h1]) | refine wT ?_ | refine wF ?_ | refine wC (fun h => ?_) (fun h => ?_) | refine iK ?_ | refine aI2 ?_ | (refine hK _ ?_; clear hK K) | clear hK K)
  · skip
    refine PCall.intro (nt := 13) (rs := [.tmp 4]) Tryz.func65 rfl ⟨by kernel_rfl, by kernel_rfl, by kernel_rfl⟩ (by simp) ?_
    rintro ⟨P, w0, ok0, may, np, pblk⟩ rfl rfl
    repeat' (first | refine W.seq fun K hK => ?_ | refine W.block ?_ | ((first | refine wR ?_ | refine wD ?_ | refine W.skip ?_ | refine W.exit ?_ | refine W.ret (Post.ret ?_) | refine aP ?_ | refine aF ?_); simp only [go_sem, reduceCtorEq, h1]) | refine wT ?_ | refine wF ?_ | refine wC (fun h => ?_) (fun h => ?_) | refine iK ?_ | refine aI2 ?_ | (refine hK _ ?_; clear hK K) | clear hK K)
theorem check29_c (t : List En) : PCall Tryz.prog 29 [tbT t] (ft (.int .i64 (chkT t))) := by
  have ce := zero_c
  have ck := compareM_c
  have cr := ranged_c
  refine PCall.intro (nt := 89) (rs := [.tmp 2]) Tryz.func29 rfl ⟨by kernel_rfl, by kernel_rfl, by kernel_rfl⟩ (by simp) ?_
  rintro ⟨P, w0, ok0, may, np, pblk⟩ rfl rfl
  refine W.lenIm 0 rfl fun hlen => ?_
  rw [List.length_map, maxLen_is] at hlen
  repeat' (first | refine W.seq fun K hK => ?_ | refine W.block ?_ | ((first | refine wR ?_ | refine wD ?_ | refine W.skip ?_ | refine W.exit ?_ | refine W.ret (Post.ret ?_) | refine aP ?_ | refine aF ?_); simp only [go_sem, reduceCtorEq, List.length_map]) | refine wT ?_ | refine wF ?_ | refine wC (fun h => ?_) (fun h => ?_) | refine iK ?_ | refine aI2 ?_ | (refine hK _ ?_; clear hK K) | clear hK K)
  refine W.loopF (T := fun i : Nat => { t := [(0, tbT t), (3, ft (.int .i64 0)), (4, ft (.int .i64 0)), (5, ft (.int .i64 (i : Nat)))], h := [], nx := 0, ex := [], nt := 89 })
    (Inv := fun i => i ≤ t.length ∧ firstE t t.length 0 = firstE t (t.length - i) i) (μ := fun i => t.length - i) (x0 := 0) (Fits.fit [] [0, 3, 4, 5] 0 rfl rfl ?_) ⟨Nat.zero_le _, rfl⟩ ?_
  · simp only [go_sem]
    exact Fits.rfl
  rintro i ⟨hi, hinv⟩ KL hKL
  by_cases hlt : i < t.length
  · obtain ⟨e, he, hm, hd⟩ := drop_at hlt
    have e1 : decide ((i : Int) < t.length) = true := by simp; omega
    have e2 : decide (i < t.length) = true := by simp; omega
    have hw := w64s i (by omega)
    rw [firstE_at hlt] at hinv
    have hc := ce e
    simp only [enT, enA, List.map] at hc
    clear ce
    have hr : err1 t i = if ordE t i then 8 else if e.emp then 7 else if rngE e then 2 else 0 := by unfold err1; rw [he]
    have fin : ∀ c : Int, c ≠ 0 → err1 t i = c → chkT t = c := fun c h0 h => by unfold chkT; rw [hinv, h, if_neg h0, if_neg h0]
    have goon : err1 t i = 0 → firstE t t.length 0 = firstE t (t.length - (i + 1)) (i + 1) := fun h => by rw [hinv, if_pos h]
    clear hinv
    have hrg := rgd_is e
    have g1 := cr e.ti MT
    have g2 := cr e.sp MT
    have g3 := cr e.er e.sp
    have g4 := cr e.og e.er
    clear cr
    rcases i with _ | i
    · have ho : ordE t 0 = false := rfl
      rw [ho] at hr
      simp only [Bool.false_eq_true, if_false] at hr
      have i0 : decide (((0 : Nat) : Int) > 0) = false := by simp
      cases h7 : e.emp
      · rw [h7] at hc hr
        simp only [Bool.false_eq_true, if_false] at hr
        cases r0 : rgd e.ti MT
        · have hg1 : rngE e = true := by rw [← hrg, r0]; simp
          rw [hg1] at hr
          simp only [if_true] at hr
          rw [fin 2 (by decide) hr]
          clear hKL
          rw [r0] at g1
          repeat' (first | refine W.seq fun K hK => ?_ | refine W.block ?_ | ((first | refine wR ?_ | refine wD ?_ | refine W.skip ?_ | refine W.exit ?_ | refine W.ret (Post.ret ?_) | refine aP ?_ | refine aF ?_); simp only [go_sem, reduceCtorEq, List.getElem?_map, he, enA, e1, e2, hw, i0, List.length_map]) | refine wT ?_ | refine wF ?_ | refine wC (fun h => ?_) (fun h => ?_) | refine iK ?_ | refine aI2 ?_ | (refine hK _ ?_; clear hK K) | clear hK K)
        cases r1 : rgd e.sp MT
        · have hg1 : rngE e = true := by rw [← hrg, r1]; simp
          rw [hg1] at hr
          simp only [if_true] at hr
          rw [fin 2 (by decide) hr]
          clear hKL
          rw [r0] at g1
          rw [r1] at g2
          repeat' (first | refine W.seq fun K hK => ?_ | refine W.block ?_ | ((first | refine wR ?_ | refine wD ?_ | refine W.skip ?_ | refine W.exit ?_ | refine W.ret (Post.ret ?_) | refine aP ?_ | refine aF ?_); simp only [go_sem, reduceCtorEq, List.getElem?_map, he, enA, e1, e2, hw, i0, List.length_map]) | refine wT ?_ | refine wF ?_ | refine wC (fun h => ?_) (fun h => ?_) | refine iK ?_ | refine aI2 ?_ | (refine hK _ ?_; clear hK K) | clear hK K)
        cases r2 : rgd e.er e.sp
        · have hg1 : rngE e = true := by rw [← hrg, r2]; simp
          rw [hg1] at hr
          simp only [if_true] at hr
          rw [fin 2 (by decide) hr]
          clear hKL
          rw [r0] at g1
          rw [r1] at g2
          rw [r2] at g3
          repeat' (first | refine W.seq fun K hK => ?_ | refine W.block ?_ | ((first | refine wR ?_ | refine wD ?_ | refine W.skip ?_ | refine W.exit ?_ | refine W.ret (Post.ret ?_) | refine aP ?_ | refine aF ?_); simp only [go_sem, reduceCtorEq, List.getElem?_map, he, enA, e1, e2, hw, i0, List.length_map]) | refine wT ?_ | refine wF ?_ | refine wC (fun h => ?_) (fun h => ?_) | refine iK ?_ | refine aI2 ?_ | (refine hK _ ?_; clear hK K) | clear hK K)
        cases r3 : rgd e.og e.er
        · have hg1 : rngE e = true := by rw [← hrg, r3]; simp
          rw [hg1] at hr
          simp only [if_true] at hr
          rw [fin 2 (by decide) hr]
          clear hKL
          rw [r0] at g1
          rw [r1] at g2
          rw [r2] at g3
          rw [r3] at g4
          repeat' (first | refine W.seq fun K hK => ?_ | refine W.block ?_ | ((first | refine wR ?_ | refine wD ?_ | refine W.skip ?_ | refine W.exit ?_ | refine W.ret (Post.ret ?_) | refine aP ?_ | refine aF ?_); simp only [go_sem, reduceCtorEq, List.getElem?_map, he, enA, e1, e2, hw, i0, List.length_map]) | refine wT ?_ | refine wF ?_ | refine wC (fun h => ?_) (fun h => ?_) | refine iK ?_ | refine aI2 ?_ | (refine hK _ ?_; clear hK K) | clear hK K)
        have hg0 : rngE e = false := by rw [← hrg, r0, r1, r2, r3]; rfl
        rw [hg0] at hr
        simp only [Bool.false_eq_true, if_false] at hr
        rw [r0] at g1
        rw [r1] at g2
        rw [r2] at g3
        rw [r3] at g4
        repeat' (first | refine W.seq fun K hK => ?_ | refine W.block ?_ | ((first | refine wR ?_ | refine wD ?_ | refine W.skip ?_ | refine W.exit ?_ | refine W.ret (Post.ret ?_) | refine aP ?_ | refine aF ?_); simp only [go_sem, reduceCtorEq, List.getElem?_map, he, enA, e1, e2, hw, i0, List.length_map]) | refine wT ?_ | refine wF ?_ | refine wC (fun h => ?_) (fun h => ?_) | refine iK ?_ | refine aI2 ?_ | (refine hK _ ?_; clear hK K) | clear hK K)
        refine hKL.to (0 + 1) ⟨by omega, goon hr⟩ (by omega) (Fits.fit [] [0, 3, 4, 5] 0 rfl rfl ?_)
        simp only [go_sem]
        exact Fits.rfl
      · rw [h7] at hc hr
        simp only [if_true] at hr
        rw [fin 7 (by decide) hr]
        clear hKL
        repeat' (first | refine W.seq fun K hK => ?_ | refine W.block ?_ | ((first | refine wR ?_ | refine wD ?_ | refine W.skip ?_ | refine W.exit ?_ | refine W.ret (Post.ret ?_) | refine aP ?_ | refine aF ?_); simp only [go_sem, reduceCtorEq, List.getElem?_map, he, enA, e1, e2, hw, i0, List.length_map]) | refine wT ?_ | refine wF ?_ | refine wC (fun h => ?_) (fun h => ?_) | refine iK ?_ | refine aI2 ?_ | (refine hK _ ?_; clear hK K) | clear hK K)
    · obtain ⟨p, hp, hpm, _⟩ := drop_at (show i < t.length by omega)
      have i0 : decide (((i + 1 : Nat) : Int) > 0) = true := by simp
      have hsub : IntKind.i64.wrap (((i + 1 : Nat) : Int) - 1) = (i : Nat) := by rw [w64 (by omega) (by omega)]; omega
      have e3 : decide (i < t.length) = true := by simp; omega
      have hck := ck p.k e.k
      simp only [kyT, kyA, List.map] at hck
      clear ck
      have ho : ordE t (i + 1) = decide (cmpKy p.k e.k ≥ 0) := by
        show (match t[i]?, t[i + 1]? with | some p, some e => decide (cmpKy p.k e.k ≥ 0) | _, _ => false) = _
        rw [hp, he]
      cases hg : decide (cmpKy p.k e.k ≥ 0)
      · rw [ho, hg] at hr
        simp only [Bool.false_eq_true, if_false] at hr
        cases h7 : e.emp
        · rw [h7] at hc hr
          simp only [Bool.false_eq_true, if_false] at hr
          cases r0 : rgd e.ti MT
          · have hg1 : rngE e = true := by rw [← hrg, r0]; simp
            rw [hg1] at hr
            simp only [if_true] at hr
            rw [fin 2 (by decide) hr]
            clear hKL
            rw [r0] at g1
            repeat' (first | refine W.seq fun K hK => ?_ | refine W.block ?_ | ((first | refine wR ?_ | refine wD ?_ | refine W.skip ?_ | refine W.exit ?_ | refine W.ret (Post.ret ?_) | refine aP ?_ | refine aF ?_); simp only [go_sem, reduceCtorEq, List.getElem?_map, he, hp, enA, e1, e2, e3, hw, i0, hsub, hg, List.length_map]) | refine wT ?_ | refine wF ?_ | refine wC (fun h => ?_) (fun h => ?_) | refine iK ?_ | refine aI2 ?_ | (refine hK _ ?_; clear hK K) | clear hK K)
          cases r1 : rgd e.sp MT
          · have hg1 : rngE e = true := by rw [← hrg, r1]; simp
            rw [hg1] at hr
            simp only [if_true] at hr
            rw [fin 2 (by decide) hr]
            clear hKL
            rw [r0] at g1
            rw [r1] at g2
            repeat' (first | refine W.seq fun K hK => ?_ | refine W.block ?_ | ((first | refine wR ?_ | refine wD ?_ | refine W.skip ?_ | refine W.exit ?_ | refine W.ret (Post.ret ?_) | refine aP ?_ | refine aF ?_); simp only [go_sem, reduceCtorEq, List.getElem?_map, he, hp, enA, e1, e2, e3, hw, i0, hsub, hg, List.length_map]) | refine wT ?_ | refine wF ?_ | refine wC (fun h => ?_) (fun h => ?_) | refine iK ?_ | refine aI2 ?_ | (refine hK _ ?_; clear hK K) | clear hK K)
          cases r2 : rgd e.er e.sp
          · have hg1 : rngE e = true := by rw [← hrg, r2]; simp
            rw [hg1] at hr
            simp only [if_true] at hr
            rw [fin 2 (by decide) hr]
            clear hKL
            rw [r0] at g1
            rw [r1] at g2
            rw [r2] at g3
            repeat' (first | refine W.seq fun K hK => ?_ | refine W.block ?_ | ((first | refine wR ?_ | refine wD ?_ | refine W.skip ?_ | refine W.exit ?_ | refine W.ret (Post.ret ?_) | refine aP ?_ | refine aF ?_); simp only [go_sem, reduceCtorEq, List.getElem?_map, he, hp, enA, e1, e2, e3, hw, i0, hsub, hg, List.length_map]) | refine wT ?_ | refine wF ?_ | refine wC (fun h => ?_) (fun h => ?_) | refine iK ?_ | refine aI2 ?_ | (refine hK _ ?_; clear hK K) | clear hK K)
          cases r3 : rgd e.og e.er
          · have hg1 : rngE e = true := by rw [← hrg, r3]; simp
            rw [hg1] at hr
            simp only [if_true] at hr
            rw [fin 2 (by decide) hr]
            clear hKL
            rw [r0] at g1
            rw [r1] at g2
            rw [r2] at g3
            rw [r3] at g4
            repeat' (first | refine W.seq fun K hK => ?_ | refine W.block ?_ | ((first | refine wR ?_ | refine wD ?_ | refine W.skip ?_ | refine W.exit ?_ | refine W.ret (Post.ret ?_) | refine aP ?_ | refine aF ?_); simp only [go_sem, reduceCtorEq, List.getElem?_map, he, hp, enA, e1, e2, e3, hw, i0, hsub, hg, List.length_map]) | refine wT ?_ | refine wF ?_ | refine wC (fun h => ?_) (fun h => ?_) | refine iK ?_ | refine aI2 ?_ | (refine hK _ ?_; clear hK K) | clear hK K)
          have hg0 : rngE e = false := by rw [← hrg, r0, r1, r2, r3]; rfl
          rw [hg0] at hr
          simp only [Bool.false_eq_true, if_false] at hr
          rw [r0] at g1
          rw [r1] at g2
          rw [r2] at g3
          rw [r3] at g4
          repeat' (first | refine W.seq fun K hK => ?_ | refine W.block ?_ | ((first | refine wR ?_ | refine wD ?_ | refine W.skip ?_ | refine W.exit ?_ | refine W.ret (Post.ret ?_) | refine aP ?_ | refine aF ?_); simp only [go_sem, reduceCtorEq, List.getElem?_map, he, hp, enA, e1, e2, e3, hw, i0, hsub, hg, List.length_map]) | refine wT ?_ | refine wF ?_ | refine wC (fun h => ?_) (fun h => ?_) | refine iK ?_ | refine aI2 ?_ | (refine hK _ ?_; clear hK K) | clear hK K)
          refine hKL.to ((i + 1) + 1) ⟨by omega, goon hr⟩ (by omega) (Fits.fit [] [0, 3, 4, 5] 0 rfl rfl ?_)
          simp only [go_sem]
          exact Fits.rfl
        · rw [h7] at hc hr
          simp only [if_true] at hr
          rw [fin 7 (by decide) hr]
          clear hKL
          repeat' (first | refine W.seq fun K hK => ?_ | refine W.block ?_ | ((first | refine wR ?_ | refine wD ?_ | refine W.skip ?_ | refine W.exit ?_ | refine W.ret (Post.ret ?_) | refine aP ?_ | refine aF ?_); simp only [go_sem, reduceCtorEq, List.getElem?_map, he, hp, enA, e1, e2, e3, hw, i0, hsub, hg, List.length_map]) | refine wT ?_ | refine wF ?_ | refine wC (fun h => ?_) (fun h => ?_) | refine iK ?_ | refine aI2 ?_ | (refine hK _ ?_; clear hK K) | clear hK K)
      · rw [ho, hg] at hr
        simp only [if_true] at hr
        rw [fin 8 (by decide) hr]
        clear hKL
        repeat' (first | refine W.seq fun K hK => ?_ | refine W.block ?_ | ((first | refine wR ?_ | refine wD ?_ | refine W.skip ?_ | refine W.exit ?_ | refine W.ret (Post.ret ?_) | refine aP ?_ | refine aF ?_); simp only [go_sem, reduceCtorEq, List.getElem?_map, he, hp, enA, e1, e2, e3, hw, i0, hsub, hg, List.length_map]) | refine wT ?_ | refine wF ?_ | refine wC (fun h => ?_) (fun h => ?_) | refine iK ?_ | refine aI2 ?_ | (refine hK _ ?_; clear hK K) | clear hK K)
  · obtain rfl : i = t.length := by omega
    have e1 : decide ((t.length : Int) < t.length) = false := by simp
    have h0 : firstE t t.length 0 = 0 := by rw [hinv, Nat.sub_self]; rfl
    have hchk : chkT t = ovE t t.length 0 := by unfold chkT; rw [if_pos h0]
    clear hKL ce ck cr hinv
    repeat' (first | refine W.seq fun K hK => ?_ | refine W.block ?_ | ((first | refine wR ?_ | refine wD ?_ | refine W.skip ?_ | refine W.exit ?_ | refine W.ret (Post.ret ?_) | refine aP ?_ | refine aF ?_); simp only [go_sem, reduceCtorEq, e1, List.length_map]) | refine wT ?_ | refine wF ?_ | refine wC (fun h => ?_) (fun h => ?_) | refine iK ?_ | refine aI2 ?_ | (refine hK _ ?_; clear hK K) | clear hK K)
    refine W.loopF (T := fun i : Nat => { t := [(0, tbT t), (3, ft (.int .i64 (ovT t i))), (4, ft (.int .i64 (ovS t i))), (7, ft (.int .i64 (i : Nat)))], h := [], nx := 0, ex := [], nt := 89 })
      (Inv := fun i => i ≤ t.length ∧ ovE t t.length 0 = ovE t (t.length - i) i) (μ := fun i => t.length - i) (x0 := 0) (Fits.fit [] [0, 3, 4, 7] 0 rfl rfl ?_) ⟨Nat.zero_le _, rfl⟩ ?_
    · simp only [go_sem]
      exact Fits.rfl
    rintro i ⟨hi, hinv⟩ KJ hKJ
    by_cases hlt : i < t.length
    · obtain ⟨e, he, hm, hd⟩ := drop_at hlt
      have f1 : decide ((i : Int) < t.length) = true := by simp; omega
      have f2 : decide (i < t.length) = true := by simp; omega
      have hw := w64s i (by omega)
      have hT := ovT_step he
      have hS := ovS_step he
      rw [ovE_at hlt] at hinv
      cases b1 : decide (IntKind.i64.wrap (ovT t i + e.ti) > MT)
      · cases b2 : decide (IntKind.i64.wrap (ovS t i + e.sp) > MT)
        · have hb : ovB t i = false := by unfold ovB; rw [hT, hS, b1, b2]; rfl
          rw [hb] at hinv
          repeat' (first | refine W.seq fun K hK => ?_ | refine W.block ?_ | ((first | refine wR ?_ | refine wD ?_ | refine W.skip ?_ | refine W.exit ?_ | refine W.ret (Post.ret ?_) | refine aP ?_ | refine aF ?_); simp only [go_sem, reduceCtorEq, List.getElem?_map, he, enA, f1, f2, hw, b1, b2, List.length_map]) | refine wT ?_ | refine wF ?_ | refine wC (fun h => ?_) (fun h => ?_) | refine iK ?_ | refine aI2 ?_ | (refine hK _ ?_; clear hK K) | clear hK K)
          refine hKJ.to (i + 1) ⟨by omega, by rw [hinv]; simp⟩ (by omega) (Fits.fit [] [0, 3, 4, 7] 0 rfl rfl ?_)
          simp only [go_sem, hT, hS]
          exact Fits.rfl
        · have hb : ovB t i = true := by unfold ovB; rw [hT, hS, b1, b2]; rfl
          rw [hb, if_pos rfl] at hinv
          clear hKJ
          rw [hchk, hinv]
          repeat' (first | refine W.seq fun K hK => ?_ | refine W.block ?_ | ((first | refine wR ?_ | refine wD ?_ | refine W.skip ?_ | refine W.exit ?_ | refine W.ret (Post.ret ?_) | refine aP ?_ | refine aF ?_); simp only [go_sem, reduceCtorEq, List.getElem?_map, he, enA, f1, f2, hw, b1, b2, List.length_map]) | refine wT ?_ | refine wF ?_ | refine wC (fun h => ?_) (fun h => ?_) | refine iK ?_ | refine aI2 ?_ | (refine hK _ ?_; clear hK K) | clear hK K)
      · have hb : ovB t i = true := by unfold ovB; rw [hT, b1]; rfl
        rw [hb, if_pos rfl] at hinv
        clear hKJ
        rw [hchk, hinv]
        repeat' (first | refine W.seq fun K hK => ?_ | refine W.block ?_ | ((first | refine wR ?_ | refine wD ?_ | refine W.skip ?_ | refine W.exit ?_ | refine W.ret (Post.ret ?_) | refine aP ?_ | refine aF ?_); simp only [go_sem, reduceCtorEq, List.getElem?_map, he, enA, f1, f2, hw, b1, List.length_map]) | refine wT ?_ | refine wF ?_ | refine wC (fun h => ?_) (fun h => ?_) | refine iK ?_ | refine aI2 ?_ | (refine hK _ ?_; clear hK K) | clear hK K)
    · obtain rfl : i = t.length := by omega
      have f1 : decide ((t.length : Int) < t.length) = false := by simp
      have h9 : ovE t t.length 0 = 0 := by rw [hinv, Nat.sub_self]; rfl
      clear hKJ
      repeat' (first | refine W.seq fun K hK => ?_ | refine W.block ?_ | ((first | refine wR ?_ | refine wD ?_ | refine W.skip ?_ | refine W.exit ?_ | refine W.ret (Post.ret ?_) | refine aP ?_ | refine aF ?_); simp only [go_sem, reduceCtorEq, f1, List.length_map]) | refine wT ?_ | refine wF ?_ | refine wC (fun h => ?_) (fun h => ?_) | refine iK ?_ | refine aI2 ?_ | (refine hK _ ?_; clear hK K) | clear hK K)
      rw [hchk, h9]
end Go.Proofs.YthlimkmjobpjoaaGreat
namespace Go.Proofs.YthlimkmjobpjoaaGreat
open Go.RowKit Go.Exe
/-! ### AttributionChecks -/
attribute [local irreducible] W AX Run RunD AStep AOp AOpX AStB AStH AStG Fits PCall GCall PostG Post Stop
theorem checks_c (c53 : SortC Tryz.prog 164 14) (c71 : SortI Tryz.prog 56) (g85 : GrowC Tryz.prog 107 3 1 8) (cE : SortC Tryz.prog 71 7) (a b : List En) : PCall Tryz.prog 8 [tbT a, tbT b] (ft (.bool true)) := by
  have ck := known_c c53 c71 g85 cE
  by_cases hl : a.length ≤ 10
  · have e1 : decide ((a.length : Int) > 10) = false := by simp; omega
    by_cases hl2 : b.length ≤ 10
    · have e2 : decide ((b.length : Int) > 10) = false := by simp; omega
      have c1 := check26_c a
      have c2 := check29_c a
      have c3 := equalT_c a b
      have c4 := same_c a b
      have c5 := equalT_c a a
      rw [decide_eq_true rfl] at c5
      refine PCall.intro (nt := 98) (rs := [.tmp 4]) Tryz.func8 rfl ⟨by kernel_rfl, by kernel_rfl, by kernel_rfl⟩ (by simp) ?_
      rintro ⟨P, w0, ok0, may, np, pblk⟩ rfl rfl
      repeat' (first | refine W.seq fun K hK => ?_ | refine W.block ?_ | ((first | refine wR ?_ | refine wD ?_ | refine W.skip ?_ | refine W.exit ?_ | refine W.ret (Post.ret ?_) | refine aP ?_ | refine aF ?_); simp only [go_sem, reduceCtorEq, List.length_map, e1, e2]) | refine wT ?_ | refine wF ?_ | refine wC (fun h => ?_) (fun h => ?_) | refine iK ?_ | refine aI2 ?_ | (refine hK _ ?_; clear hK K) | clear hK K)
      clear ck
      refine W.loopF (T := fun i : Nat => { t := [(0, tbT a), (1, tbT b), (5, ft (.int .i64 (i : Nat)))], h := [], nx := 0, ex := [], nt := 98 })
        (Inv := fun i => i ≤ a.length ∧ i ≤ b.length) (μ := fun i => a.length - i) (x0 := 0) (Fits.fit [] [0, 1, 5] 0 rfl rfl ?_) ⟨Nat.zero_le _, Nat.zero_le _⟩ ?_
      · simp only [go_sem]
        exact Fits.rfl
      rintro i ⟨hi, hi2⟩ KL hKL
      have hK2 : ∀ s1, Fits { P := Tryz.prog, w0 := w0, ok0 := ok0, may := may, np := 0, pblk := pblk } s1 { t := [(0, tbT a), (1, tbT b)], h := [], nx := 0, ex := [], nt := 98 } → K s1 := by
        intro s1 hf
        refine hK _ (W.fits hf ?_)
        clear hf hK hKL
        cases hab : decide (a = b)
        · rw [hab] at c3 c4
          repeat' (first | refine W.seq fun K hK => ?_ | refine W.block ?_ | ((first | refine wR ?_ | refine wD ?_ | refine W.skip ?_ | refine W.exit ?_ | refine W.ret (Post.ret ?_) | refine aP ?_ | refine aF ?_); simp only [go_sem, reduceCtorEq]) | refine wT ?_ | refine wF ?_ | refine wC (fun h => ?_) (fun h => ?_) | refine iK ?_ | refine aI2 ?_ | (refine hK _ ?_; clear hK K) | clear hK K)
        · rw [hab] at c3 c4
          repeat' (first | refine W.seq fun K hK => ?_ | refine W.block ?_ | ((first | refine wR ?_ | refine wD ?_ | refine W.skip ?_ | refine W.exit ?_ | refine W.ret (Post.ret ?_) | refine aP ?_ | refine aF ?_); simp only [go_sem, reduceCtorEq]) | refine wT ?_ | refine wF ?_ | refine wC (fun h => ?_) (fun h => ?_) | refine iK ?_ | refine aI2 ?_ | (refine hK _ ?_; clear hK K) | clear hK K)
      clear hK c1 c2 c3 c4 c5
      by_cases hlt : i < a.length
      · have f1 : decide ((i : Int) < a.length) = true := by simp; omega
        have f3 : decide (i < a.length) = true := by simp; omega
        by_cases hlt2 : i < b.length
        · have f2 : decide ((i : Int) < b.length) = true := by simp; omega
          have f4 : decide (i < b.length) = true := by simp; omega
          obtain ⟨x, hx, _, _⟩ := drop_at hlt
          obtain ⟨y, hy, _, _⟩ := drop_at hlt2
          have hw := w64s i (by omega)
          have d1 := compareKeys_c x.k y.k
          have d2 := compareM_c x.k y.k
          have d3 := compareKeys_c y.k x.k
          have d4 := compareM_c y.k x.k
          simp only [kyT, kyA, List.map] at d1 d2 d3 d4
          have n1 : (cmpKy x.k y.k != cmpKy x.k y.k) = false := by simp
          have n2 : (cmpKy y.k x.k != cmpKy y.k x.k) = false := by simp
          clear hK2
          repeat' (first | refine W.seq fun K hK => ?_ | refine W.block ?_ | ((first | refine wR ?_ | refine wD ?_ | refine W.skip ?_ | refine W.exit ?_ | refine W.ret (Post.ret ?_) | refine aP ?_ | refine aF ?_); simp only [go_sem, reduceCtorEq, List.getElem?_map, hx, hy, enA, f1, f2, f3, f4, hw, n1, n2, List.length_map]) | refine wT ?_ | refine wF ?_ | refine wC (fun h => ?_) (fun h => ?_) | refine iK ?_ | refine aI2 ?_ | (refine hK _ ?_; clear hK K) | clear hK K)
          refine hKL.to (i + 1) ⟨by omega, by omega⟩ (by omega) (Fits.fit [] [0, 1, 5] 0 rfl rfl ?_)
          simp only [go_sem]
          exact Fits.rfl
        · have f2 : decide ((i : Int) < b.length) = false := by simp; omega
          clear hKL
          repeat' (first | refine W.seq fun K hK => ?_ | refine W.block ?_ | ((first | refine wR ?_ | refine wD ?_ | refine W.skip ?_ | refine W.exit ?_ | refine W.ret (Post.ret ?_) | refine aP ?_ | refine aF ?_); simp only [go_sem, reduceCtorEq, f1, f2, List.length_map]) | refine wT ?_ | refine wF ?_ | refine wC (fun h => ?_) (fun h => ?_) | refine iK ?_ | refine aI2 ?_ | (refine hK _ ?_; clear hK K) | clear hK K)
          refine hK2 _ (Fits.fit [] [0, 1] 0 rfl rfl ?_)
          simp only [go_sem]
          exact Fits.rfl
      · have f1 : decide ((i : Int) < a.length) = false := by simp; omega
        clear hKL
        repeat' (first | refine W.seq fun K hK => ?_ | refine W.block ?_ | ((first | refine wR ?_ | refine wD ?_ | refine W.skip ?_ | refine W.exit ?_ | refine W.ret (Post.ret ?_) | refine aP ?_ | refine aF ?_); simp only [go_sem, reduceCtorEq, f1, List.length_map]) | refine wT ?_ | refine wF ?_ | refine wC (fun h => ?_) (fun h => ?_) | refine iK ?_ | refine aI2 ?_ | (refine hK _ ?_; clear hK K) | clear hK K)
        refine hK2 _ (Fits.fit [] [0, 1] 0 rfl rfl ?_)
        simp only [go_sem]
        exact Fits.rfl
    · have e2 : decide ((b.length : Int) > 10) = true := by simp; omega
      refine PCall.intro (nt := 98) (rs := [.tmp 4]) Tryz.func8 rfl ⟨by kernel_rfl, by kernel_rfl, by kernel_rfl⟩ (by simp) ?_
      rintro ⟨P, w0, ok0, may, np, pblk⟩ rfl rfl
      repeat' (first | refine W.seq fun K hK => ?_ | refine W.block ?_ | ((first | refine wR ?_ | refine wD ?_ | refine W.skip ?_ | refine W.exit ?_ | refine W.ret (Post.ret ?_) | refine aP ?_ | refine aF ?_); simp only [go_sem, reduceCtorEq, List.length_map, e1, e2]) | refine wT ?_ | refine wF ?_ | refine wC (fun h => ?_) (fun h => ?_) | refine iK ?_ | refine aI2 ?_ | (refine hK _ ?_; clear hK K) | clear hK K)
  · have e1 : decide ((a.length : Int) > 10) = true := by simp; omega
    refine PCall.intro (nt := 98) (rs := [.tmp 4]) Tryz.func8 rfl ⟨by kernel_rfl, by kernel_rfl, by kernel_rfl⟩ (by simp) ?_
    rintro ⟨P, w0, ok0, may, np, pblk⟩ rfl rfl
    repeat' (first | refine W.seq fun K hK => ?_ | refine W.block ?_ | ((first | refine wR ?_ | refine wD ?_ | refine W.skip ?_ | refine W.exit ?_ | refine W.ret (Post.ret ?_) | refine aP ?_ | refine aF ?_); simp only [go_sem, reduceCtorEq, List.length_map, e1]) | refine wT ?_ | refine wF ?_ | refine wC (fun h => ?_) (fun h => ?_) | refine iK ?_ | refine aI2 ?_ | (refine hK _ ?_; clear hK K) | clear hK K)
end Go.Proofs.YthlimkmjobpjoaaGreat
