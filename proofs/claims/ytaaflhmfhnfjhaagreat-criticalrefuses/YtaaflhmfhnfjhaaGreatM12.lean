/-
  CriticalRefuses: at all parents, numbers of spans and roots the law answers true: Walk returns ErrNotFound, ErrCycle or OK, and ErrLimit where there are too many spans.
-/
import Derived.Test.YtaaflhmfhnfjhaaGreatM10
import Derived.Test.YtaaflhmfhnfjhaaGreatM11
namespace Go.Proofs.YtaaflhmfhnfjhaaGreat
open Go.RowKit Go.Exe
set_option linter.unusedVariables false
set_option linter.unusedSimpArgs false
set_option maxHeartbeats 8000000
set_option maxRecDepth 100000
/-! ### CriticalShifts -/
attribute [local irreducible] W AX Run RunD AStep AOp AOpX AStB AStH AStG Fits PCall GCall PostG Post Stop
end Go.Proofs.YtaaflhmfhnfjhaaGreat
namespace Go.Proofs.YtaaflhmfhnfjhaaGreat
open Go.RowKit Go.Exe
set_option linter.unusedVariables false
set_option linter.unusedSimpArgs false
set_option maxHeartbeats 8000000
set_option maxRecDepth 100000
/-! ### CriticalRefuses -/
theorem depN_mem2 {ss : List Spn} {x : Int} : ∀ d, 0 ≤ depN ss d x → ∃ e, x ∈ lev ss e
  | 0, h => by simp [depN] at h
  | d + 1, h => by
    simp only [depN] at h
    split at h
    · exact ⟨d, by assumption⟩
    · exact depN_mem2 d h
theorem lev_cycF {L : List Spn} (hn : (idsOf L).Nodup) : ∀ (n : Nat) {j : Nat} {s : Spn}, L[j]? = some s → cycF L n j = false → ∃ d, s.id ∈ lev L d
  | 0, j, s, _, h => by simp [cycF] at h
  | n + 1, j, s, hj, h => by
    have hm := List.mem_of_getElem? hj
    rw [cycF, hj] at h
    simp only at h
    by_cases h0 : s.pa = 0
    · exact ⟨0, mem_tops.2 ⟨s, hm, rfl, .inl h0⟩⟩
    · rw [if_neg h0] at h
      cases hf : L.findIdx? (fun x => x.id == s.pa) with
      | none =>
        refine ⟨0, mem_tops.2 ⟨s, hm, rfl, .inr fun hc => ?_⟩⟩
        obtain ⟨y, hy, e⟩ := List.mem_map.1 hc
        rw [List.findIdx?_eq_none_iff] at hf
        have := hf y hy
        simp [e] at this
      | some k =>
        rw [hf] at h
        simp only at h
        obtain ⟨h4, h5, _⟩ := List.findIdx?_eq_some_iff_getElem.1 hf
        have hk := List.getElem?_eq_getElem h4
        obtain ⟨d, hd⟩ := lev_cycF hn n hk h
        have e : L[k].id = s.pa := by simpa using h5
        refine ⟨d + 1, ?_⟩
        rw [lev, List.mem_flatMap]
        exact ⟨_, hd, mem_kids.2 ⟨s, hm, rfl, e.symm, h0⟩⟩
theorem cyc_is {L : List Spn} (hn : (idsOf L).Nodup) {j : Nat} {s : Spn} (hj : L[j]? = some s) : (cycN L L.length).contains s.id = cycF L (L.length + 1) j := by
  have hm := List.mem_of_getElem? hj
  have hc : (cycN L L.length).contains s.id = true ↔ depN L L.length s.id < 0 := by
    rw [List.contains_iff_mem]
    unfold cycN
    rw [List.take_length]
    constructor
    · intro h
      obtain ⟨y, hy, e⟩ := List.mem_map.1 h
      have := (List.mem_filter.1 hy).2
      rw [e] at this
      simpa using this
    · intro h
      exact List.mem_map.2 ⟨s, List.mem_filter.2 ⟨hm, by simpa using h⟩, rfl⟩
  cases hF : cycF L (L.length + 1) j with
  | false =>
    obtain ⟨d, hd⟩ := lev_cycF hn _ hj hF
    rw [Bool.eq_false_iff]
    intro h
    have := hc.1 h
    rw [depN_of hn hd _ (dep_lt hn (List.ne_nil_of_mem hd))] at this
    omega
  | true =>
    rw [hc]
    refine Int.not_le.1 fun h => ?_
    obtain ⟨d, hd⟩ := depN_mem2 _ h
    have := cycF_lev hn d hj hd (L.length + 1) (by have := dep_lt hn (List.ne_nil_of_mem hd); omega)
    rw [hF] at this
    cases this
/-- The error of Walk where nothing is before anything. -/
def nevF (l : List Spn) (root : Int) : Int := if 256 < l.length then 6 else match spId l root with
  | none => 10
  | some s => if (cycN (ofS l s.tr) (ofS l s.tr).length).contains root then 35 else 0
/-! ### lists of spans by their places -/
def glL (f : Nat → Spn) (n : Nat) : List Spn := (List.range n).map f
theorem glL_succ (f : Nat → Spn) (n : Nat) : glL f (n + 1) = glL f n ++ [f n] := by simp [glL, List.range_succ]
theorem glL_len (f : Nat → Spn) (n : Nat) : (glL f n).length = n := by simp [glL]
theorem glN (f : Nat → Spn) (n : Nat) : imR ((glL f (n + 1)).map spN) = imR ((glL f n).map spN) ++ [(spN (f n)).map .im] := by
  rw [glL_succ]; simp [imR, imL]
theorem gl_mem {f : Nat → Spn} {n : Nat} {s : Spn} (h : s ∈ glL f n) : ∃ i, i < n ∧ s = f i := by
  obtain ⟨i, hi, rfl⟩ := List.mem_map.1 h
  exact ⟨i, List.mem_range.1 hi, rfl⟩
theorem gl_le {f : Nat → Spn} (h : ∀ i, (f i).ats = [] ∧ (f i).lks = []) (n : Nat) : Al (Al CLe) (imR ((glL f n).map spN)) (imR ((glL f n).map spA)) := by
  refine ⟨by simp [imR], fun i u x hu hx => ?_⟩
  simp only [imR, List.map_map, List.getElem?_map, Option.map_eq_some_iff] at hu hx
  obtain ⟨s, hs, rfl⟩ := hu
  obtain ⟨s', hs', rfl⟩ := hx
  rw [hs] at hs'
  cases hs'
  obtain ⟨j, _, rfl⟩ := gl_mem (List.mem_of_getElem? hs)
  obtain ⟨h1, h2⟩ := h j
  simp only [Function.comp, imL, spN, spA, List.map, h1, h2]
  repeat (first | exact Al.nil | (refine Al.cons (by first | exact CLe.rfl | exact CLe.nil) ?_))
theorem gl_sorted {f : Nat → Spn} (h : ∀ i, (f i).id = ((i + 1 : Nat) : Int)) (n : Nat) : (glL f n).Pairwise fun a b => a.id < b.id := by
  unfold glL
  rw [List.pairwise_map]
  refine List.pairwise_lt_range.imp fun {a b} hab => ?_
  rw [h a, h b]
  omega
theorem fn_arg {f g : Nat} {a b : TV} {r : TV} (h : PCall Tryz.prog f [a, b, .c (.im (.fn g []))] r) : PCall Tryz.prog f [a, b, ft (.func (.func g) #[] #[])] r := by
  refine ⟨h.1, fun ok w vs hvs => h.2 ok w vs ⟨hvs.1, fun i v y h1 h2 => ?_⟩⟩
  rcases i with _ | _ | _ | i
  · exact hvs.2 0 v y h1 (by simpa using h2)
  · exact hvs.2 1 v y h1 (by simpa using h2)
  · have h3 := hvs.2 2 v (ft (.func (.func g) #[] #[])) h1 rfl
    simp only [List.getElem?_cons_succ, List.getElem?_cons_zero, Option.some.injEq] at h2
    subst h2
    have h4 : v = .func (.func g) #[] #[] := RepA.flat_eq h3
    subst h4
    exact RepA.fn (cs := []) (fun _ => default) (by simp)
  · simp at h2
attribute [local irreducible] W AX Run RunD AStep AOp AOpX AStB AStH AStG Fits PCall GCall PostG Post Stop
theorem never_c : BfC 17 [] (fun _ _ => false) := by
  intro x y _ _
  simp only [evA, List.map]
  refine PCall.intro (nt := 6) (rs := [.tmp 4, .tmp 5]) Tryz.func17 rfl ⟨by kernel_rfl, by kernel_rfl, by kernel_rfl⟩ (by simp) ?_
  rintro ⟨P, w0, ok0, may, np, pblk⟩ rfl rfl
  repeat' (first | ((show W _ _ _ _); first | refine W.seq fun K hK => ?_ | refine W.block ?_ | ((first | refine wR ?_ | refine wD ?_ | refine W.skip ?_ | refine W.exit ?_ | refine W.ret (Post.ret ?_)); simp only [go_sem, reduceCtorEq]) | refine wT ?_ | refine wF ?_ | refine wC (fun h => ?_) (fun h => ?_)) | ((show AX _ _ _ _ _); (first | refine aP ?_ | refine aF ?_); simp only [go_sem, reduceCtorEq]) | refine iK ?_ | refine aI2 ?_ | (refine hK _ ?_; clear hK K) | clear hK K)
theorem gl_nev {f : Nat → Spn} (hid : ∀ i, (f i).id = ((i + 1 : Nat) : Int)) (htr : ∀ i, (f i).tr = 1) (n : Nat) (hn : n ≤ 256) (root : Int) :
    nevF (glL f n) root = match (glL f n).findIdx? (fun x => x.id == root) with
      | none => 10
      | some j => if cycF (glL f n) ((glL f n).length + 1) j then 35 else 0 := by
  have hsr := gl_sorted hid n
  have hnd := nodup_sorted hsr
  have ht : ∀ s ∈ glL f n, s.tr = 1 := fun s hs => by obtain ⟨i, _, rfl⟩ := gl_mem hs; exact htr i
  have hlen := glL_len f n
  unfold nevF
  rw [if_neg (by omega)]
  generalize glL f n = l at *
  cases hj : l.findIdx? (fun x => x.id == root) with
  | none =>
    have : spId l root = none := by
      unfold spId
      rw [List.find?_eq_none]
      rw [List.findIdx?_eq_none_iff] at hj
      exact fun x hx => by simpa using hj x hx
    rw [this]
  | some j =>
    obtain ⟨h4, h5, _⟩ := List.findIdx?_eq_some_iff_getElem.1 hj
    have hk := List.getElem?_eq_getElem h4
    have hm := List.getElem_mem h4
    have hid2 : l[j].id = root := by simpa using h5
    cases hs : spId l root with
    | none =>
      unfold spId at hs
      rw [List.find?_eq_none] at hs
      exact absurd hid2 (by simpa using hs _ hm)
    | some s =>
      obtain ⟨h1, h2⟩ := spId_mem hs
      have he := id_eq hnd h1 hm (by rw [h2, hid2])
      subst he
      simp only
      have hc := cyc_is hnd hk
      rw [ht _ hm, ofS_fix ht hsr, ← hid2, hc]
end Go.Proofs.YtaaflhmfhnfjhaaGreat
namespace Go.Proofs.YtaaflhmfhnfjhaaGreat
open Go.RowKit Go.Exe
set_option linter.unusedVariables false
set_option linter.unusedSimpArgs false
set_option maxHeartbeats 8000000
set_option maxRecDepth 100000
/-! ### Walk where nothing is before anything: its path is never begun -/
abbrev nvO (m : KM) : List (Nat × Exe.Obj) := [(0, .box 109 [.im (.mp 3 (kEA m)), .im (.fn 17 []), fl (.int .i64 0), fl (.slice none 0 0)])]
attribute [local irreducible] W AX Run RunD AStep AOp AOpX AStB AStH AStG Fits PCall GCall PostG Post Stop
theorem ask_nev (m : KM) (x y : Ev) (hx : okE x) (hy : okE y) : GCall Tryz.prog 68 1 (St.g [.c (.ptr 0 0), evT x, evT y] (nvO m) 1) (St.r (ft (.bool false)) (nvO m) 1) := by
  have c1 := never_c x y hx hy
  clear hx hy
  obtain ⟨a, b, e⟩ := x
  obtain ⟨a2, b2, e2⟩ := y
  simp only [evT, evA, List.map] at c1 ⊢
  have hG := eqG52
  have hE := fun w => eqEv a b a2 b2 e e2 w
  have he := evEq ⟨a, b, e⟩ ⟨a2, b2, e2⟩
  simp only at he
  cases h : decide ((⟨a, b, e⟩ : Ev) = ⟨a2, b2, e2⟩)
  · rw [h] at he
    simp only [he] at hE
    refine GCall.introG (nt := 36) (rs := [.tmp 6]) Tryz.func68 rfl ⟨by kernel_rfl, by kernel_rfl, by kernel_rfl⟩ (by simp) ?_
    rintro ⟨P, w0, ok0, may, np, pblk⟩ rfl rfl
    simp only [go_sem]
    repeat' (first | ((show W _ _ _ _); first | refine W.seq fun K hK => ?_ | refine W.block ?_ | ((first | refine wR ?_ | refine wD ?_ | refine W.skip ?_ | refine W.exit ?_ | refine W.ret (Post.ret ?_)); simp only [go_sem, reduceCtorEq, Bool.not_false, Bool.true_and]) | refine wT ?_ | refine wF ?_ | refine wC (fun h => ?_) (fun h => ?_)) | ((show AX _ _ _ _ _); (first | refine aP ?_ | refine aF ?_ | refine aC ?_ | refine aE ?_); simp only [go_sem, reduceCtorEq, Bool.not_false, Bool.true_and]) | refine iK ?_ | refine aI2 ?_ | (refine hK _ ?_; clear hK K) | clear hK K)
    refine W.ret (PostG.ret (Fits.fit [(0, 0)] [6] 1 rfl rfl Fits.rfl) rfl rfl ?_)
    simp only [St.r, go_sem]
  · rw [h] at he
    simp only [he] at hE
    refine GCall.introG (nt := 36) (rs := [.tmp 6]) Tryz.func68 rfl ⟨by kernel_rfl, by kernel_rfl, by kernel_rfl⟩ (by simp) ?_
    rintro ⟨P, w0, ok0, may, np, pblk⟩ rfl rfl
    simp only [go_sem]
    repeat' (first | ((show W _ _ _ _); first | refine W.seq fun K hK => ?_ | refine W.block ?_ | ((first | refine wR ?_ | refine wD ?_ | refine W.skip ?_ | refine W.exit ?_ | refine W.ret (Post.ret ?_)); simp only [go_sem, reduceCtorEq, Bool.not_true, Bool.false_and]) | refine wT ?_ | refine wF ?_ | refine wC (fun h => ?_) (fun h => ?_)) | ((show AX _ _ _ _ _); (first | refine aP ?_ | refine aF ?_ | refine aC ?_ | refine aE ?_); simp only [go_sem, reduceCtorEq, Bool.not_true, Bool.false_and]) | refine iK ?_ | refine aI2 ?_ | (refine hK _ ?_; clear hK K) | clear hK K)
    refine W.ret (PostG.ret (Fits.fit [(0, 0)] [6] 1 rfl rfl Fits.rfl) rfl rfl ?_)
    simp only [St.r, go_sem]
theorem walk_nev (m : KM) (s : Spn) (lo cur : Ev) (hlo : okE lo) (hcur : okE cur) : GCall Tryz.prog 44 1 (St.g [.c (.ptr 0 0), spT s, evT lo, evT cur] (nvO m) 1) (St.r (.t []) (nvO m) 1) := by
  have a0 := ask_nev m lo cur hlo hcur
  simp only [spT, spA, evT, evA, List.map] at a0 ⊢
  refine GCall.introG (nt := 77) (rs := []) Tryz.func44 rfl ⟨by kernel_rfl, by kernel_rfl, by kernel_rfl⟩ (by simp) ?_
  rintro ⟨P, w0, ok0, may, np, pblk⟩ rfl rfl
  simp only [go_sem]
  repeat' (first | ((show W _ _ _ _); first | refine W.seq fun K hK => ?_ | refine W.block ?_ | ((first | refine wR ?_ | refine wD ?_ | refine W.skip ?_ | refine W.exit ?_ | refine W.ret (Post.ret ?_)); simp only [go_sem, reduceCtorEq]) | refine wT ?_ | refine wF ?_ | refine wC (fun h => ?_) (fun h => ?_)) | ((show AX _ _ _ _ _); (first | refine aP ?_ | refine aF ?_ | refine aC ?_ | refine aE ?_); simp only [go_sem, reduceCtorEq]) | refine iK ?_ | refine aI2 ?_ | (refine hK _ ?_; clear hK K) | clear hK K)
  refine W.loopF (T := fun x : Unit => { t := [(0, .c (.ptr 0 0)), (5, .c (.ptr 1 0)), (6, .c (.ptr 2 0)), (7, .c (.ptr 3 0))], h := nvO m ++ [(1, .box 36 ((spA s).map .im)), (2, .box 52 ((evA lo).map .im)), (3, .box 52 ((evA cur).map .im))], nx := 4, ex := [], nt := 77 })
    (Inv := fun _ => True) (μ := fun _ => 0) (x0 := ()) ?_ trivial ?_
  · refine Fits.fit [(0, 0), (1, 1), (2, 2), (3, 3)] [0, 5, 6, 7] 4 rfl rfl ?_
    simp only [go_sem, evA, spA, List.map]
    exact Fits.rfl
  rintro _ _ KL hKL
  simp only [evA, spA, List.map, List.cons_append, List.nil_append]
  clear hKL
  repeat' (first | ((show W _ _ _ _); first | refine W.seq fun K hK => ?_ | refine W.block ?_ | ((first | refine wR ?_ | refine wD ?_ | refine W.skip ?_ | refine W.exit ?_ | refine W.ret (Post.ret ?_)); simp only [go_sem, reduceCtorEq]) | refine wT ?_ | refine wF ?_ | refine wC (fun h => ?_) (fun h => ?_)) | ((show AX _ _ _ _ _); (first | refine aP ?_ | refine aF ?_ | refine aC ?_ | refine aE ?_); simp only [go_sem, reduceCtorEq]) | refine iK ?_ | refine aI2 ?_ | (refine hK _ ?_; clear hK K) | clear hK K)
  refine AX.gcall [0] rfl rfl (a0) (by simp only [go_sem, reduceCtorEq]) (by simp only [go_sem, reduceCtorEq]) rfl rfl (by simp only [go_sem, Obj.owns]) rfl (by simp only [go_sem, Obj.owns]) rfl rfl ?_
  simp only [go_sem, reduceCtorEq]
  repeat' (first | ((show W _ _ _ _); first | refine W.seq fun K hK => ?_ | refine W.block ?_ | ((first | refine wR ?_ | refine wD ?_ | refine W.skip ?_ | refine W.exit ?_ | refine W.ret (Post.ret ?_)); simp only [go_sem, reduceCtorEq]) | refine wT ?_ | refine wF ?_ | refine wC (fun h => ?_) (fun h => ?_)) | ((show AX _ _ _ _ _); (first | refine aP ?_ | refine aF ?_ | refine aC ?_ | refine aE ?_); simp only [go_sem, reduceCtorEq]) | refine iK ?_ | refine aI2 ?_ | (refine hK _ ?_; clear hK K) | clear hK K)
  refine PostG.normal (Fits.fit [(0, 0)] [] 1 rfl rfl Fits.rfl) rfl rfl ?_
  simp only [St.r, go_sem]
theorem rev_nil : PCall Tryz.prog 45 [ft (.slice none 0 0)] (.t []) := by
  have e0 : decide ((0 : Int) < -1) = false := by decide
  have e1 : IntKind.i64.wrap (((0 : Nat) : Int) - 1) = -1 := by decide
  have e2 : IntKind.i64.wrap ((0 : Int) - 1) = -1 := by decide
  refine PCall.intro (nt := 28) (rs := []) Tryz.func45 rfl ⟨by kernel_rfl, by kernel_rfl, by kernel_rfl⟩ (by simp) ?_
  rintro ⟨P, w0, ok0, may, np, pblk⟩ rfl rfl
  repeat' (first | ((show W _ _ _ _); first | refine W.seq fun K hK => ?_ | refine W.block ?_ | ((first | refine wR ?_ | refine wD ?_ | refine W.skip ?_ | refine W.exit ?_ | refine W.ret (Post.ret ?_)); simp only [go_sem, reduceCtorEq, e1, e2]) | refine wT ?_ | refine wF ?_ | refine wC (fun h => ?_) (fun h => ?_)) | ((show AX _ _ _ _ _); (first | refine aP ?_ | refine aF ?_ | refine aC ?_ | refine aE ?_); simp only [go_sem, reduceCtorEq, e1, e2]) | refine iK ?_ | refine aI2 ?_ | (refine hK _ ?_; clear hK K) | clear hK K)
  refine W.loopF (T := fun x : Unit => { t := [(0, ft (.slice none 0 0)), (2, ft (.int .i64 0)), (3, ft (.int .i64 (-1)))], h := [], nx := 0, ex := [], nt := 28 })
    (Inv := fun _ => True) (μ := fun _ => 0) (x0 := ()) (Fits.fit [] [0, 2, 3] 0 rfl rfl ?_) trivial ?_
  · simp only [go_sem]
    exact Fits.rfl
  rintro _ _ KL hKL
  clear hKL
  repeat' (first | ((show W _ _ _ _); first | refine W.seq fun K hK => ?_ | refine W.block ?_ | ((first | refine wR ?_ | refine wD ?_ | refine W.skip ?_ | refine W.exit ?_ | refine W.ret (Post.ret ?_)); simp only [go_sem, reduceCtorEq, e0]) | refine wT ?_ | refine wF ?_ | refine wC (fun h => ?_) (fun h => ?_)) | ((show AX _ _ _ _ _); (first | refine aP ?_ | refine aF ?_ | refine aC ?_ | refine aE ?_); simp only [go_sem, reduceCtorEq, e0]) | refine iK ?_ | refine aI2 ?_ | (refine hK _ ?_; clear hK K) | clear hK K)
  refine Post.normal ?_
  simp only [go_sem]
theorem top_nev (c53 : SortC Tryz.prog 53 14) (c71 : SortI Tryz.prog 71) (g85 : GrowC Tryz.prog 85 3 1 8) (l : List Spn) (root : Int)
    (hnd : (idsOf l).Nodup) (hI : ∀ s ∈ l, I64 s.id ∧ I64 s.pa) (hT : ∀ s ∈ l, I64 s.tr) (hO : ∀ t, (idsOf (ofS l t)).Nodup ∧ ∀ s ∈ ofS l t, I64 s.id ∧ I64 s.pa) :
    PCall Tryz.prog 16 [spsT l, ft (.int .i64 root), .c (.im (.fn 17 []))] (.t [(false, [fl (.slice none 0 0)]), (false, [fl (.int .i64 (nevF l root))])]) := by
  have c40 := find_c l root
  have c37 := event_c
  have hF := f1_103_4
  have cv := rev_nil
  unfold nevF
  by_cases h256 : 256 < l.length
  · rw [if_pos h256]
    have e1 : decide ((l.length : Int) > 256) = true := by simp; omega
    refine PCall.intro (nt := 59) (rs := [.tmp 6, .tmp 7]) Tryz.func16 rfl ⟨by kernel_rfl, by kernel_rfl, by kernel_rfl⟩ (by simp) ?_
    rintro ⟨P, w0, ok0, may, np, pblk⟩ rfl rfl
    repeat' (first | ((show W _ _ _ _); first | refine W.seq fun K hK => ?_ | refine W.block ?_ | ((first | refine wR ?_ | refine wD ?_ | refine W.skip ?_ | refine W.exit ?_ | refine W.ret (Post.ret ?_)); simp only [go_sem, reduceCtorEq, List.length_map, e1]) | refine wT ?_ | refine wF ?_ | refine wC (fun h => ?_) (fun h => ?_)) | ((show AX _ _ _ _ _); (first | refine aP ?_ | refine aF ?_ | refine aL ?_ | refine aU (hnn := by simp only [go_sem, reduceCtorEq, List.length_map, e1]) ?_ | refine aM ?_ | refine aN ?_ | refine aR ?_ | refine aD ?_); simp only [go_sem, reduceCtorEq, List.length_map, e1]) | refine iK ?_ | refine aI2 ?_ | (refine hK _ ?_; clear hK K) | clear hK K)
  rw [if_neg h256]
  have e1 : decide ((l.length : Int) > 256) = false := by simp; omega
  cases hs : spId l root with
  | none =>
    unfold findT at c40
    rw [hs] at c40
    simp only [zSpn] at c40
    refine PCall.intro (nt := 59) (rs := [.tmp 6, .tmp 7]) Tryz.func16 rfl ⟨by kernel_rfl, by kernel_rfl, by kernel_rfl⟩ (by simp) ?_
    rintro ⟨P, w0, ok0, may, np, pblk⟩ rfl rfl
    repeat' (first | ((show W _ _ _ _); first | refine W.seq fun K hK => ?_ | refine W.block ?_ | ((first | refine wR ?_ | refine wD ?_ | refine W.skip ?_ | refine W.exit ?_ | refine W.ret (Post.ret ?_)); simp only [go_sem, reduceCtorEq, List.length_map, e1]) | refine wT ?_ | refine wF ?_ | refine wC (fun h => ?_) (fun h => ?_)) | ((show AX _ _ _ _ _); (first | refine aP ?_ | refine aF ?_ | refine aL ?_ | refine aU (hnn := by simp only [go_sem, reduceCtorEq, List.length_map, e1]) ?_ | refine aM ?_ | refine aN ?_ | refine aR ?_ | refine aD ?_); simp only [go_sem, reduceCtorEq, List.length_map, e1]) | refine iK ?_ | refine aI2 ?_ | (refine hK _ ?_; clear hK K) | clear hK K)
  | some s =>
    obtain ⟨hsl, hsid⟩ := spId_mem hs
    have ct := build_c c53 c71 g85 l s.tr (hO s.tr).1 (hO s.tr).2
    unfold findT at c40
    rw [hs] at c40
    simp only [spA, List.map] at c40
    simp only [trT, trA, treeOf, List.map] at ct
    have cc := contains_c (cycN (ofS l s.tr) (ofS l s.tr).length) root
    simp only
    by_cases hcy : (cycN (ofS l s.tr) (ofS l s.tr).length).contains root = true
    · rw [if_pos hcy]
      rw [hcy] at cc
      refine PCall.intro (nt := 59) (rs := [.tmp 6, .tmp 7]) Tryz.func16 rfl ⟨by kernel_rfl, by kernel_rfl, by kernel_rfl⟩ (by simp) ?_
      rintro ⟨P, w0, ok0, may, np, pblk⟩ rfl rfl
      repeat' (first | ((show W _ _ _ _); first | refine W.seq fun K hK => ?_ | refine W.block ?_ | ((first | refine wR ?_ | refine wD ?_ | refine W.skip ?_ | refine W.exit ?_ | refine W.ret (Post.ret ?_)); simp only [go_sem, reduceCtorEq, List.length_map, e1]) | refine wT ?_ | refine wF ?_ | refine wC (fun h => ?_) (fun h => ?_)) | ((show AX _ _ _ _ _); (first | refine aP ?_ | refine aF ?_ | refine aL ?_ | refine aU (hnn := by simp only [go_sem, reduceCtorEq, List.length_map, e1]) ?_ | refine aM ?_ | refine aN ?_ | refine aR ?_ | refine aD ?_); simp only [go_sem, reduceCtorEq, List.length_map, e1]) | refine iK ?_ | refine aI2 ?_ | (refine hK _ ?_; clear hK K) | clear hK K)
    · rw [if_neg hcy]
      rw [Bool.not_eq_true] at hcy
      rw [hcy] at cc
      have hll : l.length * 168 ≤ 140737488355328 := by omega
      have cb := blocking_c c53 l hnd (fun z hz => (hI z hz).2) hll
      have cw := walk_nev (kidM l) s (evOf s false) (evOf s true) ⟨hT s hsl, (hI s hsl).1⟩ ⟨hT s hsl, (hI s hsl).1⟩
      have cs := c37 s false
      have ce := c37 s true
      clear c53 c71 g85 hO hI c37 hs
      simp only [spT, spA, evT, evA, evOf, List.map, List.nil_append] at cs ce cw
      refine PCall.intro (nt := 59) (rs := [.tmp 6, .tmp 7]) Tryz.func16 rfl ⟨by kernel_rfl, by kernel_rfl, by kernel_rfl⟩ (by simp) ?_
      rintro ⟨P, w0, ok0, may, np, pblk⟩ rfl rfl
      repeat' (first | ((show W _ _ _ _); first | refine W.seq fun K hK => ?_ | refine W.block ?_ | ((first | refine wR ?_ | refine wD ?_ | refine W.skip ?_ | refine W.exit ?_ | refine W.ret (Post.ret ?_)); simp only [go_sem, reduceCtorEq, List.length_map, e1]) | refine wT ?_ | refine wF ?_ | refine wC (fun h => ?_) (fun h => ?_)) | ((show AX _ _ _ _ _); (first | refine aP ?_ | refine aF ?_ | refine aL ?_ | refine aU (hnn := by simp only [go_sem, reduceCtorEq, List.length_map, e1]) ?_ | refine aM ?_ | refine aN ?_ | refine aR ?_ | refine aD ?_); simp only [go_sem, reduceCtorEq, List.length_map, e1]) | refine iK ?_ | refine aI2 ?_ | (refine hK _ ?_; clear hK K) | clear hK K)
      refine AX.gcall [27] rfl rfl (cw) (by simp only [go_sem, reduceCtorEq]) (by simp only [go_sem, reduceCtorEq]) rfl rfl (by simp only [go_sem, Obj.owns]) rfl (by simp only [go_sem, Obj.owns]) rfl rfl ?_
      simp only [go_sem, reduceCtorEq]
      repeat' (first | ((show W _ _ _ _); first | refine W.seq fun K hK => ?_ | refine W.block ?_ | ((first | refine wR ?_ | refine wD ?_ | refine W.skip ?_ | refine W.exit ?_ | refine W.ret (Post.ret ?_)); simp only [go_sem, reduceCtorEq]) | refine wT ?_ | refine wF ?_ | refine wC (fun h => ?_) (fun h => ?_)) | ((show AX _ _ _ _ _); (first | refine aP ?_ | refine aF ?_ | refine aL ?_ | refine aU ?_ | refine aM ?_ | refine aN ?_ | refine aR ?_ | refine aD ?_); simp only [go_sem, reduceCtorEq]) | refine iK ?_ | refine aI2 ?_ | (refine hK _ ?_; clear hK K) | clear hK K)
end Go.Proofs.YtaaflhmfhnfjhaaGreat
namespace Go.Proofs.YtaaflhmfhnfjhaaGreat
open Go.RowKit Go.Exe
set_option linter.unusedVariables false
set_option linter.unusedSimpArgs false
set_option maxHeartbeats 8000000
set_option maxRecDepth 100000
/-! ### the walk of CriticalRefuses -/
theorem gl_nevC (c53 : SortC Tryz.prog 53 14) (c71 : SortI Tryz.prog 71) (g85 : GrowC Tryz.prog 85 3 1 8) {f : Nat → Spn} (hid : ∀ i, (f i).id = ((i + 1 : Nat) : Int)) (htr : ∀ i, (f i).tr = 1) (hpa : ∀ i, I64 (f i).pa) (n : Nat) (hn : n ≤ 256) (root : Int) :
    PCall Tryz.prog 16 [spsT (glL f n), ft (.int .i64 root), ft (.func (.func 17) #[] #[])] (.t [(false, [fl (.slice none 0 0)]), (false, [fl (.int .i64 (nevF (glL f n) root))])]) := by
  have hsr := gl_sorted hid n
  have ht : ∀ s ∈ glL f n, s.tr = 1 := fun s hs => by obtain ⟨i, _, rfl⟩ := gl_mem hs; exact htr i
  have hI : ∀ s ∈ glL f n, I64 s.id ∧ I64 s.pa := fun s hs => by
    obtain ⟨i, hi, rfl⟩ := gl_mem hs
    refine ⟨?_, hpa i⟩
    rw [hid i]; unfold I64; omega
  refine fn_arg (top_nev c53 c71 g85 (glL f n) root (nodup_sorted hsr) hI (fun s hs => by rw [ht s hs]; unfold I64; omega) (fun t => ?_))
  by_cases e : t = 1
  · subst e
    rw [ofS_fix ht hsr]
    exact ⟨nodup_sorted hsr, hI⟩
  · have : ofS (glL f n) t = [] := ofS_perm (by rw [trF_none ht e]) List.Pairwise.nil
    rw [this]
    exact ⟨by simp [idsOf], fun s hs => by simp at hs⟩
theorem limit_nev (xs : List (List AV)) (root : Int) (h : 256 < xs.length) : PCall Tryz.prog 16 [.c (.im (.sl 36 xs)), ft (.int .i64 root), ft (.func (.func 17) #[] #[])] (.t [(false, [fl (.slice none 0 0)]), (false, [fl (.int .i64 6)])]) := by
  refine fn_arg ?_
  have e1 : decide ((xs.length : Int) > 256) = true := by simp; omega
  refine PCall.intro (nt := 59) (rs := [.tmp 6, .tmp 7]) Tryz.func16 rfl ⟨by kernel_rfl, by kernel_rfl, by kernel_rfl⟩ (by simp) ?_
  rintro ⟨P, w0, ok0, may, np, pblk⟩ rfl rfl
  repeat' (first | ((show W _ _ _ _); first | refine W.seq fun K hK => ?_ | refine W.block ?_ | ((first | refine wR ?_ | refine wD ?_ | refine W.skip ?_ | refine W.exit ?_ | refine W.ret (Post.ret ?_)); simp only [go_sem, reduceCtorEq, e1]) | refine wT ?_ | refine wF ?_ | refine wC (fun h => ?_) (fun h => ?_)) | ((show AX _ _ _ _ _); (first | refine aP ?_ | refine aF ?_); simp only [go_sem, reduceCtorEq, e1]) | refine iK ?_ | refine aI2 ?_ | (refine hK _ ?_; clear hK K) | clear hK K)
def rfS (ps : List Nat) (i : Nat) : Spn := ⟨1, ((i + 1 : Nat) : Int), ((ps.getD i 0 % 8 : Nat) : Int), 0, 1, 3, ⟨#[115]⟩, .empty, ⟨#[111]⟩, 0, 9, false, [], []⟩
def mnS (i : Nat) : Spn := ⟨1, ((i + 1 : Nat) : Int), 0, 0, 1, 3, ⟨#[115]⟩, .empty, ⟨#[111]⟩, 0, 0, false, [], []⟩
def lsS : Spn := ⟨1, 999, 0, 0, 1, 3, ⟨#[115]⟩, .empty, ⟨#[111]⟩, 0, 0, false, [], []⟩
theorem many_nev : nevF (glL mnS 256) 1 = 0 := by
  rw [gl_nev (fun _ => rfl) (fun _ => rfl) 256 (Nat.le_refl _)]
  have h : (glL mnS 256).findIdx? (fun x => x.id == 1) = some 0 := by
    rw [List.findIdx?_eq_some_iff_getElem]
    refine ⟨by rw [glL_len]; omega, ?_, fun j hj => by omega⟩
    simp [glL, mnS]
  rw [h]
  have hc : cycF (glL mnS 256) ((glL mnS 256).length + 1) 0 = false := by
    have h0 : (glL mnS 256)[0]? = some (mnS 0) := by simp [glL]
    rw [cycF, h0]
    rfl
  simp only [hc, Bool.false_eq_true, if_false]
attribute [local irreducible] W AX Run RunD AStep AOp AOpX AStB AStH AStG Fits PCall GCall PostG Post Stop
theorem refuses_c (c53 : SortC Tryz.prog 53 14) (c71 : SortI Tryz.prog 71) (g85 : GrowC Tryz.prog 85 3 1 8) (ps : List Nat) (hps : ps.length = 6) (hpb : ∀ x ∈ ps, x < 256) (u : Nat) (hu : u < 256) (root : Int) :
    PCall Tryz.prog 4 [.g (ps.map fun n => fl (.int .u8 (n : Nat))), ft (.int .u8 (u : Nat)), ft (.int .i64 root)] (ft (.bool true)) := by
  have c11 := known_c c53 c71 g85
  have hu7 : u % 7 < 7 := Nat.mod_lt _ (by omega)
  have cN := gl_nevC c53 c71 g85 (f := rfS ps) (fun _ => rfl) (fun _ => rfl) (fun i => by
    have : ps.getD i 0 % 8 < 8 := Nat.mod_lt _ (by omega)
    show I64 ((ps.getD i 0 % 8 : Nat) : Int)
    unfold I64; omega) (u % 7) (by omega) root
  have cM := gl_nevC c53 c71 g85 (f := mnS) (fun _ => rfl) (fun _ => rfl) (fun i => by show I64 0; unfold I64; omega) 256 (Nat.le_refl _) 1
  rw [many_nev] at cM
  have hnv := gl_nev (f := rfS ps) (fun _ => rfl) (fun _ => rfl) (u % 7) (by omega) root
  have cL := limit_nev ((glL mnS 256).map spA ++ [spN lsS]) 0 (by rw [List.length_append, List.length_map, glL_len]; simp)
  have c18 := at18_c (glL (rfS ps) (u % 7)) root
  have c19 := fun j h => cyclic_c (glL (rfS ps) (u % 7)) root j h
  have q1 : Int.tmod (u : Int) 7 = ((u % 7 : Nat) : Int) := tm u 7
  have q2 := w64n (u % 7) (by omega)
  clear c53 c71 g85
  match ps, hps with
  | [p0, p1, p2, p3, p4, p5], _ =>
  have b0 := hpb p0 (by simp)
  have b1 := hpb p1 (by simp)
  have b2 := hpb p2 (by simp)
  have b3 := hpb p3 (by simp)
  have b4 := hpb p4 (by simp)
  have b5 := hpb p5 (by simp)
  clear hpb
  obtain ⟨f, hf⟩ : ∃ f, f = rfS [p0, p1, p2, p3, p4, p5] := ⟨_, rfl⟩
  rw [← hf] at cN hnv c18 c19
  have hfz : ∀ k, f k = rfS [p0, p1, p2, p3, p4, p5] k := fun k => by rw [hf]
  obtain ⟨n, hn⟩ : ∃ n, n = u % 7 := ⟨_, rfl⟩
  rw [← hn] at cN hnv c18 c19 q1 q2 hu7
  clear hn
  have hA : Tryz.prog.underlying 43 = some (.array 6 5) := by kernel_rfl
  have hE := tE5
  have hN : EL Tryz.prog 43 = none := by kernel_rfl
  simp only [List.map]
  refine PCall.intro (nt := 90) (rs := [.tmp 6]) Tryz.func4 rfl ⟨by kernel_rfl, by kernel_rfl, by kernel_rfl⟩ (by simp) ?_
  rintro ⟨P, w0, ok0, may, np, pblk⟩ rfl rfl
  repeat' (first | ((show W _ _ _ _); first | refine W.seq fun K hK => ?_ | refine W.block ?_ | ((first | refine wR ?_ | refine wD ?_ | refine W.skip ?_ | refine W.exit ?_ | refine W.ret (Post.ret ?_)); simp only [go_sem, reduceCtorEq]) | refine wT ?_ | refine wF ?_ | refine wC (fun h => ?_) (fun h => ?_)) | ((show AX _ _ _ _ _); (first | refine aP ?_ | refine aF ?_ | refine aV ?_); simp only [go_sem, reduceCtorEq]) | refine iK ?_ | refine aI2 ?_ | (refine hK _ ?_; clear hK K) | clear hK K)
  clear c11
  refine W.loopF (T := fun i : Nat => { t := [(1, ft (.int .u8 (u : Nat))), (2, ft (.int .i64 root)), (3, .c (.ptr 0 0)), (7, .c (.ref 1)), (8, ft (.slice none 0 0)), (9, ft (.int .i64 (i : Nat)))], h := [(0, .box 43 [fl (.int .u8 (p0 : Nat)), fl (.int .u8 (p1 : Nat)), fl (.int .u8 (p2 : Nat)), fl (.int .u8 (p3 : Nat)), fl (.int .u8 (p4 : Nat)), fl (.int .u8 (p5 : Nat))]), (1, .row 36 (imR ((glL f i).map spN)))], nx := 2, ex := [], nt := 90 })
    (Inv := fun i => i ≤ n) (μ := fun i => n - i) (x0 := 0) ?_ (Nat.zero_le _) ?_
  · refine Fits.adopt 7 900 36 rfl rfl rfl tE36 rfl ?_
    refine Fits.fit [(0, 0), (900, 1)] [1, 2, 3, 7, 8, 9] 2 rfl rfl ?_
    simp only [go_sem, glL, List.range_zero, List.map_nil, imR_nil]
    exact Fits.rfl
  rintro i hi KL hKL
  by_cases hlt : i < n
  · have e1 : decide ((i : Int) < n) = true := by simp; omega
    have hw := w64s i (by omega)
    have hlen := glL_len f i
    have hrow := glN f i
    have hfi : f i = ⟨1, ((i + 1 : Nat) : Int), (([p0, p1, p2, p3, p4, p5].getD i 0 % 8 : Nat) : Int), 0, 1, 3, ⟨#[115]⟩, .empty, ⟨#[111]⟩, 0, 9, false, [], []⟩ := by rw [hf]; rfl
    rw [hfi] at hrow
    clear cN cM cL hnv c18 c19 hfi hf hfz
    obtain ⟨g0, hg0⟩ : ∃ g, g = glL f (i + 1) := ⟨_, rfl⟩
    rw [← hg0] at hrow
    generalize hg : glL f i = g at *
    rcases i with _ | _ | _ | _ | _ | _ | i
    · have x0 : 0 + Int.toNat ((0 : Nat) : Int) * 1 = 0 := rfl
      have q3 := tm8 p0
      have q4 := w64n (p0 % 8) (by have := Nat.mod_lt p0 (show 0 < 8 by omega); omega)
      have hd : [p0, p1, p2, p3, p4, p5].getD 0 0 = p0 := rfl
      rw [hd] at hrow
      simp only [Nat.zero_add, Nat.reduceAdd] at *
      simp only [spN, List.map] at hrow
      repeat' (first | ((show W _ _ _ _); first | refine W.seq fun K hK => ?_ | refine W.block ?_ | ((first | refine wR ?_ | refine wD ?_ | refine W.skip ?_ | refine W.exit ?_ | refine W.ret (Post.ret ?_)); simp only [go_sem, reduceCtorEq, q1, q2, e1, hN, x0, q3, q4, hw, List.length_map, imR_len, hlen]) | refine wT ?_ | refine wF ?_ | refine wC (fun h => ?_) (fun h => ?_)) | ((show AX _ _ _ _ _); (first | refine aP ?_ | refine aF ?_ | refine aV ?_); simp only [go_sem, reduceCtorEq, q1, q2, e1, hN, x0, q3, q4, hw, List.length_map, imR_len, hlen]) | refine iK ?_ | refine aI2 ?_ | (refine hK _ ?_; clear hK K) | clear hK K)
      refine hKL.to (0 + 1) (by omega) (by omega) (Fits.fit [(0, 0), (17, 1)] [1, 2, 3, 7, 8, 9] 2 rfl rfl ?_)
      simp only [go_sem, Nat.reduceAdd, ← hg0, hrow]
      exact Fits.rfl
    · have x0 : 0 + Int.toNat ((1 : Nat) : Int) * 1 = 1 := rfl
      have q3 := tm8 p1
      have q4 := w64n (p1 % 8) (by have := Nat.mod_lt p1 (show 0 < 8 by omega); omega)
      have hd : [p0, p1, p2, p3, p4, p5].getD 1 0 = p1 := rfl
      rw [hd] at hrow
      simp only [Nat.zero_add, Nat.reduceAdd] at *
      simp only [spN, List.map] at hrow
      repeat' (first | ((show W _ _ _ _); first | refine W.seq fun K hK => ?_ | refine W.block ?_ | ((first | refine wR ?_ | refine wD ?_ | refine W.skip ?_ | refine W.exit ?_ | refine W.ret (Post.ret ?_)); simp only [go_sem, reduceCtorEq, q1, q2, e1, hN, x0, q3, q4, hw, List.length_map, imR_len, hlen]) | refine wT ?_ | refine wF ?_ | refine wC (fun h => ?_) (fun h => ?_)) | ((show AX _ _ _ _ _); (first | refine aP ?_ | refine aF ?_ | refine aV ?_); simp only [go_sem, reduceCtorEq, q1, q2, e1, hN, x0, q3, q4, hw, List.length_map, imR_len, hlen]) | refine iK ?_ | refine aI2 ?_ | (refine hK _ ?_; clear hK K) | clear hK K)
      refine hKL.to (1 + 1) (by omega) (by omega) (Fits.fit [(0, 0), (17, 1)] [1, 2, 3, 7, 8, 9] 2 rfl rfl ?_)
      simp only [go_sem, Nat.reduceAdd, ← hg0, hrow]
      exact Fits.rfl
    · have x0 : 0 + Int.toNat ((2 : Nat) : Int) * 1 = 2 := rfl
      have q3 := tm8 p2
      have q4 := w64n (p2 % 8) (by have := Nat.mod_lt p2 (show 0 < 8 by omega); omega)
      have hd : [p0, p1, p2, p3, p4, p5].getD 2 0 = p2 := rfl
      rw [hd] at hrow
      simp only [Nat.zero_add, Nat.reduceAdd] at *
      simp only [spN, List.map] at hrow
      repeat' (first | ((show W _ _ _ _); first | refine W.seq fun K hK => ?_ | refine W.block ?_ | ((first | refine wR ?_ | refine wD ?_ | refine W.skip ?_ | refine W.exit ?_ | refine W.ret (Post.ret ?_)); simp only [go_sem, reduceCtorEq, q1, q2, e1, hN, x0, q3, q4, hw, List.length_map, imR_len, hlen]) | refine wT ?_ | refine wF ?_ | refine wC (fun h => ?_) (fun h => ?_)) | ((show AX _ _ _ _ _); (first | refine aP ?_ | refine aF ?_ | refine aV ?_); simp only [go_sem, reduceCtorEq, q1, q2, e1, hN, x0, q3, q4, hw, List.length_map, imR_len, hlen]) | refine iK ?_ | refine aI2 ?_ | (refine hK _ ?_; clear hK K) | clear hK K)
      refine hKL.to (2 + 1) (by omega) (by omega) (Fits.fit [(0, 0), (17, 1)] [1, 2, 3, 7, 8, 9] 2 rfl rfl ?_)
      simp only [go_sem, Nat.reduceAdd, ← hg0, hrow]
      exact Fits.rfl
    · have x0 : 0 + Int.toNat ((3 : Nat) : Int) * 1 = 3 := rfl
      have q3 := tm8 p3
      have q4 := w64n (p3 % 8) (by have := Nat.mod_lt p3 (show 0 < 8 by omega); omega)
      have hd : [p0, p1, p2, p3, p4, p5].getD 3 0 = p3 := rfl
      rw [hd] at hrow
      simp only [Nat.zero_add, Nat.reduceAdd] at *
      simp only [spN, List.map] at hrow
      repeat' (first | ((show W _ _ _ _); first | refine W.seq fun K hK => ?_ | refine W.block ?_ | ((first | refine wR ?_ | refine wD ?_ | refine W.skip ?_ | refine W.exit ?_ | refine W.ret (Post.ret ?_)); simp only [go_sem, reduceCtorEq, q1, q2, e1, hN, x0, q3, q4, hw, List.length_map, imR_len, hlen]) | refine wT ?_ | refine wF ?_ | refine wC (fun h => ?_) (fun h => ?_)) | ((show AX _ _ _ _ _); (first | refine aP ?_ | refine aF ?_ | refine aV ?_); simp only [go_sem, reduceCtorEq, q1, q2, e1, hN, x0, q3, q4, hw, List.length_map, imR_len, hlen]) | refine iK ?_ | refine aI2 ?_ | (refine hK _ ?_; clear hK K) | clear hK K)
      refine hKL.to (3 + 1) (by omega) (by omega) (Fits.fit [(0, 0), (17, 1)] [1, 2, 3, 7, 8, 9] 2 rfl rfl ?_)
      simp only [go_sem, Nat.reduceAdd, ← hg0, hrow]
      exact Fits.rfl
    · have x0 : 0 + Int.toNat ((4 : Nat) : Int) * 1 = 4 := rfl
      have q3 := tm8 p4
      have q4 := w64n (p4 % 8) (by have := Nat.mod_lt p4 (show 0 < 8 by omega); omega)
      have hd : [p0, p1, p2, p3, p4, p5].getD 4 0 = p4 := rfl
      rw [hd] at hrow
      simp only [Nat.zero_add, Nat.reduceAdd] at *
      simp only [spN, List.map] at hrow
      repeat' (first | ((show W _ _ _ _); first | refine W.seq fun K hK => ?_ | refine W.block ?_ | ((first | refine wR ?_ | refine wD ?_ | refine W.skip ?_ | refine W.exit ?_ | refine W.ret (Post.ret ?_)); simp only [go_sem, reduceCtorEq, q1, q2, e1, hN, x0, q3, q4, hw, List.length_map, imR_len, hlen]) | refine wT ?_ | refine wF ?_ | refine wC (fun h => ?_) (fun h => ?_)) | ((show AX _ _ _ _ _); (first | refine aP ?_ | refine aF ?_ | refine aV ?_); simp only [go_sem, reduceCtorEq, q1, q2, e1, hN, x0, q3, q4, hw, List.length_map, imR_len, hlen]) | refine iK ?_ | refine aI2 ?_ | (refine hK _ ?_; clear hK K) | clear hK K)
      refine hKL.to (4 + 1) (by omega) (by omega) (Fits.fit [(0, 0), (17, 1)] [1, 2, 3, 7, 8, 9] 2 rfl rfl ?_)
      simp only [go_sem, Nat.reduceAdd, ← hg0, hrow]
      exact Fits.rfl
    · have x0 : 0 + Int.toNat ((5 : Nat) : Int) * 1 = 5 := rfl
      have q3 := tm8 p5
      have q4 := w64n (p5 % 8) (by have := Nat.mod_lt p5 (show 0 < 8 by omega); omega)
      have hd : [p0, p1, p2, p3, p4, p5].getD 5 0 = p5 := rfl
      rw [hd] at hrow
      simp only [Nat.zero_add, Nat.reduceAdd] at *
      simp only [spN, List.map] at hrow
      repeat' (first | ((show W _ _ _ _); first | refine W.seq fun K hK => ?_ | refine W.block ?_ | ((first | refine wR ?_ | refine wD ?_ | refine W.skip ?_ | refine W.exit ?_ | refine W.ret (Post.ret ?_)); simp only [go_sem, reduceCtorEq, q1, q2, e1, hN, x0, q3, q4, hw, List.length_map, imR_len, hlen]) | refine wT ?_ | refine wF ?_ | refine wC (fun h => ?_) (fun h => ?_)) | ((show AX _ _ _ _ _); (first | refine aP ?_ | refine aF ?_ | refine aV ?_); simp only [go_sem, reduceCtorEq, q1, q2, e1, hN, x0, q3, q4, hw, List.length_map, imR_len, hlen]) | refine iK ?_ | refine aI2 ?_ | (refine hK _ ?_; clear hK K) | clear hK K)
      refine hKL.to (5 + 1) (by omega) (by omega) (Fits.fit [(0, 0), (17, 1)] [1, 2, 3, 7, 8, 9] 2 rfl rfl ?_)
      simp only [go_sem, Nat.reduceAdd, ← hg0, hrow]
      exact Fits.rfl
    · omega
  · obtain rfl : i = n := by omega
    have e1 : decide ((i : Int) < i) = false := by simp
    have hlf := glL_len f i
    clear hKL hf hA hE
    repeat' (first | ((show W _ _ _ _); first | refine W.seq fun K hK => ?_ | refine W.block ?_ | ((first | refine wR ?_ | refine wD ?_ | refine W.skip ?_ | refine W.exit ?_ | refine W.ret (Post.ret ?_)); simp only [go_sem, reduceCtorEq, q1, q2, e1]) | refine wT ?_ | refine wF ?_ | refine wC (fun h => ?_) (fun h => ?_)) | ((show AX _ _ _ _ _); (first | refine aP ?_ | refine aF ?_ | refine aV ?_); simp only [go_sem, reduceCtorEq, q1, q2, e1]) | refine iK ?_ | refine aI2 ?_ | (refine hK _ ?_; clear hK K) | clear hK K)
    refine W.loopF (T := fun j : Nat => { t := [(2, ft (.int .i64 root)), (7, .c (.ref 0)), (8, .c (.ref 1)), (10, ft (.int .i64 (j : Nat)))], h := [(0, .row 36 (imR ((glL f i).map spN))), (1, .row 36 (imR ((glL mnS j).map spN)))], nx := 2, ex := [], nt := 90 })
      (Inv := fun j => j ≤ 256) (μ := fun j => 256 - j) (x0 := 0) ?_ (Nat.zero_le _) ?_
    · refine Fits.adopt 8 900 36 rfl rfl rfl tE36 rfl ?_
      refine Fits.fit [(1, 0), (900, 1)] [2, 7, 8, 10] 2 rfl rfl ?_
      simp only [go_sem, glL, List.range_zero, List.map_nil, imR_nil]
      exact Fits.rfl
    rintro j hj KL hKL
    by_cases hlt : j < 256
    · have e2 : decide ((j : Int) < 256) = true := by simp; omega
      have hw := w64s j (by omega)
      have hlen := glL_len mnS j
      have hrow := glN mnS j
      clear cN cM cL hnv c18 c19
      obtain ⟨g0, hg0⟩ : ∃ g, g = glL mnS (j + 1) := ⟨_, rfl⟩
      rw [← hg0] at hrow
      generalize hg : glL mnS j = g at *
      simp only [spN, mnS, List.map] at hrow
      repeat' (first | ((show W _ _ _ _); first | refine W.seq fun K hK => ?_ | refine W.block ?_ | ((first | refine wR ?_ | refine wD ?_ | refine W.skip ?_ | refine W.exit ?_ | refine W.ret (Post.ret ?_)); simp only [go_sem, reduceCtorEq, e2, hw, List.length_map, imR_len, hlen]) | refine wT ?_ | refine wF ?_ | refine wC (fun h => ?_) (fun h => ?_)) | ((show AX _ _ _ _ _); (first | refine aP ?_ | refine aF ?_ | refine aV ?_); simp only [go_sem, reduceCtorEq, e2, hw, List.length_map, imR_len, hlen]) | refine iK ?_ | refine aI2 ?_ | (refine hK _ ?_; clear hK K) | clear hK K)
      refine hKL.to (j + 1) (by omega) (by omega) (Fits.fit [(0, 0), (9, 1)] [2, 7, 8, 10] 2 rfl rfl ?_)
      simp only [go_sem, ← hg0, hrow]
      exact Fits.rfl
    · obtain rfl : j = 256 := by omega
      have e2 : decide (((256 : Nat) : Int) < 256) = false := by decide
      have hle1 := gl_le (f := f) (fun _ => by rw [hfz]; exact ⟨rfl, rfl⟩) i
      have hle2 := gl_le (f := mnS) (fun _ => ⟨rfl, rfl⟩) 256
      have hlm := glL_len mnS 256
      clear hKL
      repeat' (first | ((show W _ _ _ _); first | refine W.stop (id := 12) ?_ | refine W.seq fun K hK => ?_ | refine W.block ?_ | ((first | refine wR ?_ | refine wD ?_ | refine W.skip ?_ | refine W.exit ?_ | refine W.ret (Post.ret ?_)); simp only [go_sem, reduceCtorEq, e2]) | refine wT ?_ | refine wF ?_ | refine wC (fun h => ?_) (fun h => ?_)) | ((show AX _ _ _ _ _); (first | refine aP ?_ | refine aF ?_ | refine aV ?_); simp only [go_sem, reduceCtorEq, e2]) | refine iK ?_ | refine aI2 ?_ | (refine hK _ ?_; clear hK K) | clear hK K)
      refine Stop.out ?_
      refine W.fits (s' := { t := [(2, ft (.int .i64 root)), (7, spsT (glL f i)), (8, .c (.ref 0))], h := [(0, .row 36 (imR ((glL mnS 256).map spA)))], nx := 1, ex := [], nt := 90 }) ?_ ?_
      · refine Fits.rowLe 0 _ rfl hle1 ?_
        refine Fits.rowLe 1 _ rfl hle2 ?_
        refine Fits.freeze 0 rfl (unim_im _) ?_
        refine Fits.seeT 7 0 rfl (.inl rfl) rfl ?_
        refine Fits.fit [(1, 0)] [2, 7, 8] 1 rfl rfl ?_
        simp only [go_sem]
        exact Fits.rfl
      clear hle1 hle2
      have hsn : imR ((glL mnS 256).map spA) ++ [(spN lsS).map .im] = imR ((glL mnS 256).map spA ++ [spN lsS]) := by simp [imR, imL]
      have hls : (spN lsS).map Cell.im = [fl (.int .i64 1), fl (.int .i64 999), fl (.int .i64 0), fl (.int .i64 0), fl (.int .i64 1), fl (.int .i64 3), fl (.string ⟨#[115]⟩), fl (.string .empty), fl (.string ⟨#[111]⟩), fl (.int .i64 0), fl (.int .i64 0), fl (.bool false), fl (.slice none 0 0), fl (.slice none 0 0)] := rfl
      rw [hls] at hsn
      generalize hm : glL mnS 256 = m at *
      generalize hl : glL f i = l at *
      have n1 : ∀ e : Int, (e == e) = true := fun e => by simp
      have n2 : ((0 : Int) == 0) = true := by decide
      have n3 : ((6 : Int) == 6) = true := by decide
      have n4 : (((0 : Nat) : Int) == 0) = true := by decide
      cases hj : l.findIdx? (fun x => x.id == root) with
      | none =>
        rw [hj] at hnv
        simp only at hnv
        have ha : atI l root = -1 := by simp [atI, hj]
        have f1 : decide ((-1 : Int) < 0) = true := by decide
        have n5 : ((10 : Int) == 10) = true := by decide
        rw [hnv] at cN
        rw [ha] at c18
        clear c19
        repeat' (first | ((show W _ _ _ _); first | refine W.seq fun K hK => ?_ | refine W.block ?_ | ((first | refine wR ?_ | refine wD ?_ | refine W.skip ?_ | refine W.exit ?_ | refine W.ret (Post.ret ?_)); simp only [go_sem, reduceCtorEq, List.length_map, imR_len, hlm, hsn, f1, n5, n2, n3, n4]) | refine wT ?_ | refine wF ?_ | refine wC (fun h => ?_) (fun h => ?_)) | ((show AX _ _ _ _ _); (first | refine aP ?_ | refine aF ?_ | refine aV ?_); simp only [go_sem, reduceCtorEq, List.length_map, imR_len, hlm, hsn, f1, n5, n2, n3, n4]) | refine iK ?_ | refine aI2 ?_ | (refine hK _ ?_; clear hK K) | clear hK K)
      | some k =>
        rw [hj] at hnv
        simp only at hnv
        have ha : atI l root = (k : Nat) := by simp [atI, hj]
        have f1 : decide (((k : Nat) : Int) < 0) = false := by simp
        rw [ha] at c18
        have k19 := c19 k hj
        clear c19
        cases hc : cycF l (l.length + 1) k with
        | true =>
          rw [hc, if_pos rfl] at hnv
          rw [hc] at k19
          rw [hnv] at cN
          have n5 : ((35 : Int) == 35) = true := by decide
          repeat' (first | ((show W _ _ _ _); first | refine W.seq fun K hK => ?_ | refine W.block ?_ | ((first | refine wR ?_ | refine wD ?_ | refine W.skip ?_ | refine W.exit ?_ | refine W.ret (Post.ret ?_)); simp only [go_sem, reduceCtorEq, List.length_map, imR_len, hlm, hsn, f1, n5, n2, n3, n4]) | refine wT ?_ | refine wF ?_ | refine wC (fun h => ?_) (fun h => ?_)) | ((show AX _ _ _ _ _); (first | refine aP ?_ | refine aF ?_ | refine aV ?_); simp only [go_sem, reduceCtorEq, List.length_map, imR_len, hlm, hsn, f1, n5, n2, n3, n4]) | refine iK ?_ | refine aI2 ?_ | (refine hK _ ?_; clear hK K) | clear hK K)
        | false =>
          rw [hc, if_neg (by simp)] at hnv
          rw [hc] at k19
          rw [hnv] at cN
          repeat' (first | ((show W _ _ _ _); first | refine W.seq fun K hK => ?_ | refine W.block ?_ | ((first | refine wR ?_ | refine wD ?_ | refine W.skip ?_ | refine W.exit ?_ | refine W.ret (Post.ret ?_)); simp only [go_sem, reduceCtorEq, List.length_map, imR_len, hlm, hsn, f1, n2, n3, n4]) | refine wT ?_ | refine wF ?_ | refine wC (fun h => ?_) (fun h => ?_)) | ((show AX _ _ _ _ _); (first | refine aP ?_ | refine aF ?_ | refine aV ?_); simp only [go_sem, reduceCtorEq, List.length_map, imR_len, hlm, hsn, f1, n2, n3, n4]) | refine iK ?_ | refine aI2 ?_ | (refine hK _ ?_; clear hK K) | clear hK K)
end Go.Proofs.YtaaflhmfhnfjhaaGreat
namespace Go.Proofs.YtaaflhmfhnfjhaaGreat
open Go.ChangeShapes Go.WideShapes Go.ChangeAt Go.RowKit Go.Exe
set_option maxRecDepth 100000
set_option maxHeartbeats 1600000

def refusesC : Prop := ∀ (x0 : List AV) (x1 : AV) (x2 : AV), Typ Tryz.prog 6 43 x0 → Typ Tryz.prog 6 5 [x1] → Typ Tryz.prog 6 3 [x2] → PCall Tryz.prog 4 [.g (x0.map .im), .c (.im x1), .c (.im x2)] (ft (.bool true))
theorem refuses_lifted (hc : refusesC) (os : Os) (started : os.Started) (H : Type) (enc : TypeId × Value → H) :
    ReturnsInHanded {} Tryz.checked os 4 .any (Rows.criticalRefusesSpec.pre6 enc Tryz.prog Tryz.f4 Rows.criticalRefusesRow.domain false) (Rows.criticalRefusesSpec.post enc Tryz.prog Tryz.f4 false Rows.criticalRefusesRow.fresh Rows.criticalRefusesRow.handsOn Rows.criticalRefusesRow.again) := by
  refine returnsInHanded_of_change_sized (C := Tryz.checked) Tryz.own started (by kernel_rfl) Tryz.func4
    (ChangeSpec.witness6 (enc := enc) (C := Tryz.checked) false ⟨#[], #[.agg #[.int .u8 0, .int .u8 0, .int .u8 0, .int .u8 0, .int .u8 0, .int .u8 0], .int .u8 0, .int .i64 0], []⟩ 8 (by kernel_rfl) (by kernel_rfl) (by kernel_rfl) (by kernel_rfl)) ?_
  intro W base args ds gs before hval0 hW _ hsz0 _
  have hsz : (DataW.weightsEach Tryz.prog (Tryz.f4.params.toList ++ Rows.criticalRefusesSpec.plain.varTypes Tryz.prog) (ds ++ gs)).all (· ≤ reachBytes) = true := hsz0
  clear hsz0
  have hval : ∀ (j : Nat) t v, Tryz.f4.params[j]? = some t → args[j]? = some v → Value.okWide Tryz.prog W .any base t v := hval0
  have hW' := hW
  obtain ⟨p, q, hA0, hV, rfl, hfz, hnd⟩ := hW
  have hA : DataW.TrodAll enc Tryz.prog W 0 (fun _ => true) true Tryz.f4.params.toList args.toList ds p := hA0
  rw [Tryz.params4] at hA hval hsz
  obtain ⟨v0, v1, v2, d0, d1, d2, p0, p1, p2, rfl, rfl, rfl, h0, h1, h2⟩ := trodAll_three hA
  obtain ⟨rfl, rfl⟩ := trodVars_none hV
  clear hA0 hval0
  simp only [List.append_nil] at hW'
  obtain ⟨x0, r0, y0⟩ := arg_g (j := 0) 6 (by kernel_rfl) (by obtain ⟨cs, hcs, _⟩ := okWide_array rfl (hval 0 43 v0 rfl rfl); exact ⟨cs, hcs⟩) h0 hsz rfl rfl
  obtain ⟨x1, r1, y1⟩ := arg_c (j := 1) 6 (by kernel_rfl) (by obtain ⟨z, hz⟩ := okWide_int rfl (hval 1 5 v1 rfl rfl); rw [hz]; rfl) h1 hsz rfl rfl
  obtain ⟨x2, r2, y2⟩ := arg_c (j := 2) 6 (by kernel_rfl) (by obtain ⟨z, hz⟩ := okWide_int rfl (hval 2 3 v2 rfl rfl); rw [hz]; rfl) h2 hsz rfl rfl
  have hlt : ∀ x ∈ p0 ++ p1 ++ p2, x.block < W.heap.size := fun x hx => by simpa using hW'.lt x hx
  have hargs : ∀ (W' : World), Below W.heap.size W W' → DataW.TrodAll enc Tryz.prog W' 0 (fun b => decide (b < W.heap.size)) true Tryz.f4.params.toList [v0, v1, v2] [d0, d1, d2] (p0 ++ p1 ++ p2) := fun W' hn => by
    have k3 : ∀ {v d ps}, DataW.Trod enc Tryz.prog W 0 (fun _ => true) true 3 v d ps → (∀ x ∈ ps, x.block < W.heap.size) → DataW.Trod enc Tryz.prog W' 0 (fun b => decide (b < W.heap.size)) true 3 v d ps :=
      fun h hl => Below.trod Tryz.laidOut (by kernel_rfl) (of_decide_eq_true (by kernel_rfl)) h hn hl
    have k43 : ∀ {v d ps}, DataW.Trod enc Tryz.prog W 0 (fun _ => true) true 43 v d ps → (∀ x ∈ ps, x.block < W.heap.size) → DataW.Trod enc Tryz.prog W' 0 (fun b => decide (b < W.heap.size)) true 43 v d ps :=
      fun h hl => Below.trod Tryz.laidOut (by kernel_rfl) (of_decide_eq_true (by kernel_rfl)) h hn hl
    have k5 : ∀ {v d ps}, DataW.Trod enc Tryz.prog W 0 (fun _ => true) true 5 v d ps → (∀ x ∈ ps, x.block < W.heap.size) → DataW.Trod enc Tryz.prog W' 0 (fun b => decide (b < W.heap.size)) true 5 v d ps :=
      fun h hl => Below.trod Tryz.laidOut (by kernel_rfl) (of_decide_eq_true (by kernel_rfl)) h hn hl
    rw [Tryz.params4, List.append_assoc]
    exact trodAll_mk3 (k43 h0 fun x hx => hlt x (by simp [hx])) (k5 h1 fun x hx => hlt x (by simp [hx])) (k3 h2 fun x hx => hlt x (by simp [hx]))
  have hcall := (hc x0 x1 x2 y0 y1 y2).2 (fun _ => True) W [v0, v1, v2] (Al.cons r0 (Al.cons r1 (Al.cons r2 Al.nil)))
  refine hcall.mono fun e W' ⟨v, he, ⟨hB, _⟩, hr⟩ => ?_
  subst he
  obtain rfl : v = .bool true := RepA.flat_eq hr
  refine ⟨_, rfl, _, _, _, [], p0 ++ p1 ++ p2, [], hW', ?_, ?_, ?_, hB.frame _, fun h => by cases h⟩
  · exact trodAll_mk1 (shut_bool under4 true)
  · exact hargs W' hB
  · rfl
theorem refuses_holds (hc : refusesC) : Rows.CriticalRefusesSaid :=
  OpenClaim.holds_of_wide 4 Tryz.f4 rfl rfl rfl rfl rfl rfl rfl ⟨rfl, rfl, rfl, rfl, rfl⟩ rfl rfl rfl rfl rfl (by kernel_rfl) Tryz.func4 (by kernel_rfl)
    (of_decide_eq_true (by kernel_rfl)) (by unfold Func.isWrapper; rw [if_neg (by decide +kernel)]; exact ⟨rfl, rfl⟩)
    (fun os started H enc _ => refuses_lifted hc os started H enc)
end Go.Proofs.YtaaflhmfhnfjhaaGreat
namespace Go.Proofs.YtaaflhmfhnfjhaaGreat
open Go.RowKit Go.Exe
set_option maxRecDepth 100000
theorem u86_in {f : Nat} {xs : List AV} (h : Typ Tryz.prog (f + 2) 43 xs) : ∃ ps : List Nat, ps.length = 6 ∧ (∀ x ∈ ps, x < 256) ∧ xs = ps.map fun n => .flat (.int .u8 (n : Nat)) := by
  obtain ⟨offs, rfl, hol, ho⟩ := Typ.arr (n := 6) (e := 5) (by kernel_rfl) h
  match offs, hol with
  | [q0, q1, q2, q3, q4, q5], _ =>
    obtain ⟨a0, rfl, h0⟩ := Typ.u8 tU5 (ho q0 (by simp))
    obtain ⟨a1, rfl, h1⟩ := Typ.u8 tU5 (ho q1 (by simp))
    obtain ⟨a2, rfl, h2⟩ := Typ.u8 tU5 (ho q2 (by simp))
    obtain ⟨a3, rfl, h3⟩ := Typ.u8 tU5 (ho q3 (by simp))
    obtain ⟨a4, rfl, h4⟩ := Typ.u8 tU5 (ho q4 (by simp))
    obtain ⟨a5, rfl, h5⟩ := Typ.u8 tU5 (ho q5 (by simp))
    exact ⟨[a0, a1, a2, a3, a4, a5], rfl, by simp [h0, h1, h2, h3, h4, h5], rfl⟩
theorem ytaaflhmfhnfjhaagreat_criticalRefuses_holds : Rows.CriticalRefusesSaid := refuses_holds fun x0 x1 x2 h0 h1 h2 => by
  obtain ⟨ps, hp, hb, rfl⟩ := u86_in (f := 4) h0
  obtain ⟨u, hx, hu⟩ := Typ.u8 tU5 h1
  obtain ⟨n, hy, _⟩ := Typ.int tU3 h2
  cases hx
  cases hy
  rw [List.map_map]
  exact refuses_c sort53_c sort71_c grow85_c ps hp hb u hu n
end Go.Proofs.YtaaflhmfhnfjhaaGreat
