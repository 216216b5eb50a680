/-
  ShapeCycles: at every list of at most 8 loops the law answers true: Of of a cyclic span is ErrCycle, the shapes of the others and of the trace leave out cyclic ones.
-/
import Derived.Test.YtegcmciglakicaaGreatM7
import Derived.Test.YtegcmciglakicaaGreatM3
import Derived.Test.YtegcmciglakicaaGreatRows
import Derived.ProofKit
import Derived.Carry
import Derived.SizedLaws
import Derived.ChangeSame
import Derived.Test.YtegcmciglakicaaGreatM5
namespace Go.Proofs.YtegcmciglakicaaGreat
open Go.RowKit Go.Exe
set_option linter.unusedVariables false
set_option linter.unusedSimpArgs false
/-! ### the spans of ShapeCycles -/
def sv3 (n : Nat) : ByteArray := if n = 0 then ⟨#[97]⟩ else if n = 1 then ⟨#[98]⟩ else ⟨#[99]⟩
def cyS (i : Nat) (x : Nat × Nat) : Spn := ⟨3, ((i + 1 : Nat) : Int), ((x.1 % 10 : Nat) : Int), 0, 1, 1, sv3 (x.2 % 3), .empty, ⟨#[111]⟩, 0, 0, false, [], []⟩
def cyL (p : List (Nat × Nat)) : List Spn := p.zipIdx.map fun y => cyS y.2 y.1
def lpA (x : Nat × Nat) : List AV := [.flat (.int .u8 (x.1 : Int)), .flat (.int .u8 (x.2 : Int))]
/-- The same cells, as they are built: nil slices. -/
def cyA (s : Spn) : List AV := [.flat (.int .i64 s.tr), .flat (.int .i64 s.id), .flat (.int .i64 s.pa), .flat (.int .i64 s.rev), .flat (.int .i64 s.clk), .flat (.int .i64 s.kd), .flat (.string s.sv), .flat (.string s.ve), .flat (.string s.op), .flat (.int .i64 s.st), .flat (.int .i64 s.en), .flat (.bool s.er), .flat (.slice none 0 0), .flat (.slice none 0 0)]
theorem cyL_at {p : List (Nat × Nat)} {i : Nat} {x : Nat × Nat} (h : p[i]? = some x) : (cyL p)[i]? = some (cyS i x) := by
  have : p.zipIdx[i]? = some (x, i) := by simp [List.getElem?_zipIdx, h]
  simp [cyL, this]
theorem cyL_len (p : List (Nat × Nat)) : (cyL p).length = p.length := by simp [cyL]
theorem cyL_mem {p : List (Nat × Nat)} {s : Spn} (h : s ∈ cyL p) : ∃ i x, p[i]? = some x ∧ s = cyS i x := by
  obtain ⟨i, hi⟩ := List.getElem?_of_mem h
  have hl := (List.getElem?_eq_some_iff.1 hi).1
  rw [cyL_len] at hl
  have hx : p[i]? = some p[i] := List.getElem?_eq_getElem hl
  rw [cyL_at hx] at hi
  exact ⟨i, _, hx, (Option.some.inj hi).symm⟩
theorem cyL_sorted (p : List (Nat × Nat)) : (cyL p).Pairwise fun a b => a.id < b.id := by
  rw [List.pairwise_iff_getElem]
  intro i j hi hj hij
  have h1 : i < p.length := by rw [cyL_len] at hi; exact hi
  have h2 : j < p.length := by rw [cyL_len] at hj; exact hj
  have e1 := cyL_at (List.getElem?_eq_getElem h1)
  have e2 := cyL_at (List.getElem?_eq_getElem h2)
  rw [List.getElem?_eq_getElem hi] at e1
  rw [List.getElem?_eq_getElem hj] at e2
  rw [Option.some.inj e1, Option.some.inj e2]
  show ((i + 1 : Nat) : Int) < ((j + 1 : Nat) : Int)
  omega
theorem cyA_le (s : Spn) (h1 : s.ats = []) (h2 : s.lks = []) : Al CLe ((cyA s).map Cell.im) ((spA s).map Cell.im) := by
  simp only [cyA, spA, List.map, h1, h2]
  repeat (first | exact Al.nil | (refine Al.cons (by first | exact CLe.rfl | exact CLe.nil) ?_))
theorem cyL_le (p : List (Nat × Nat)) : Al (Al CLe) (imR ((cyL p).map cyA)) (imR ((cyL p).map spA)) := by
  refine ⟨by simp [imR], fun i u x hu hx => ?_⟩
  simp only [imR, List.map_map, List.getElem?_map, Option.map_eq_some_iff] at hu hx
  obtain ⟨s, hs, rfl⟩ := hu
  obtain ⟨s', hs', rfl⟩ := hx
  rw [hs] at hs'
  cases hs'
  obtain ⟨j, y, _, rfl⟩ := cyL_mem (List.mem_of_getElem? hs)
  exact cyA_le _ rfl rfl
/-! ### records in order, each an id of its own -/
/-- All records of one trace, in the order of their ids. -/
theorem srt_id {l : List Spn} {t : Int} (ht : ∀ s ∈ l, s.tr = t) (hs : l.Pairwise fun a b => a.id < b.id) : l.Pairwise fun a b => a.cmp b < 0 := by
  have : l.Pairwise fun a b => a ∈ l ∧ b ∈ l := List.pairwise_of_forall_mem_list fun a ha b hb => ⟨ha, hb⟩
  refine (hs.and this).imp fun {a b} ⟨hab, ha, hb⟩ => ?_
  have h1 := ht a ha
  have h2 := ht b hb
  have e : cmpI a.id b.id = -1 := by unfold cmpI; rw [if_pos hab]
  have e2 : cmpsG cmpI a.ints b.ints = -1 := by
    have e0 : cmpI a.tr b.tr = 0 := by rw [h1, h2]; simp [cmpI]
    simp [Spn.ints, cmpsG, e, e0]
  simp [Spn.cmp, orL, e2]
theorem compT_fix : ∀ (l : List Spn) (p : Spn), (p :: l).Pairwise (fun a b => a.cmp b < 0) → compT p l = l
  | [], _, _ => rfl
  | x :: r, p, h => by
    have h1 := (List.pairwise_cons.1 h).1 x (by simp)
    have h2 := lwSp.anti p x
    have h3 : (x.cmp p == 0) = false := by simp; omega
    simp only [compT, h3, Bool.false_eq_true, if_false]
    rw [compT_fix r x (List.pairwise_cons.1 h).2]
theorem setS_fix {l : List Spn} (h : l.Pairwise fun a b => a.cmp b < 0) : setS l = l := by
  have h1 : srtG Spn.cmp l = l := (lwSp.srt_uni (List.Perm.refl _) (h.imp fun {a b} hab => by have := lwSp.anti a b; omega)).symm
  rw [setS, h1]
  cases l with
  | nil => rfl
  | cons x r => simp only [compG]; rw [compT_fix r x h]
theorem chosen_all {l : List Spn} {keep : Nat → Bool} (h : ∀ i, i < l.length → keep i = true) : ∀ n, n ≤ l.length → chosenN keep l n = l.take n
  | 0, _ => by simp [chosenN]
  | n + 1, hn => by
    rw [chosenN, chosen_all h n (by omega), h n (by omega), List.take_add_one, List.getElem?_eq_getElem (by omega)]
    simp [List.getD_eq_getElem?_getD, List.getElem?_eq_getElem (show n < l.length by omega)]
theorem ofS_fix {l : List Spn} {t : Int} (ht : ∀ s ∈ l, s.tr = t) (hs : l.Pairwise fun a b => a.id < b.id) : ofS l t = l := by
  have hf : (l.filter fun x => !(x.tr != t)) = l := by
    rw [List.filter_eq_self]
    intro x hx
    simp [ht x hx]
  have h1 := setS_fix (srt_id ht hs)
  unfold ofS
  rw [hf]
  unfold winS
  rw [h1, chosen_all (fun i hi => ?_) l.length (Nat.le_refl _), List.take_length]
  unfold isLast
  rw [List.getElem?_eq_getElem hi]
  by_cases h2 : i + 1 < l.length
  · rw [List.getElem?_eq_getElem h2]
    have := List.pairwise_iff_getElem.1 hs i (i + 1) hi h2 (by omega)
    have h3 : (l[i + 1].id == l[i].id) = false := by simp; omega
    simp [h3]
  · rw [List.getElem?_eq_none (by omega)]
def cntI (ss : List Spn) (i : Nat) : Nat := ((ss.take i).filter fun s => decide (depN ss ss.length s.id < 0)).length
theorem cntI_step {ss : List Spn} {i : Nat} {s : Spn} (h : ss[i]? = some s) : cntI ss (i + 1) = cntI ss i + if depN ss ss.length s.id < 0 then 1 else 0 := by
  unfold cntI
  rw [take_s h, List.filter_append, List.length_append]
  by_cases hd : depN ss ss.length s.id < 0 <;> simp [hd]
theorem cntI_le (ss : List Spn) (i : Nat) : cntI ss i ≤ i := by
  have := List.length_filter_le (fun s : Spn => decide (depN ss ss.length s.id < 0)) (ss.take i)
  rw [List.length_take] at this
  unfold cntI; omega
theorem cyL_tr {p : List (Nat × Nat)} : ∀ s ∈ cyL p, s.tr = 3 := fun s hs => by
  obtain ⟨i, x, _, rfl⟩ := cyL_mem hs; rfl
theorem cyL_I {p : List (Nat × Nat)} (h8 : p.length ≤ 8) : ∀ s ∈ cyL p, I64 s.id ∧ I64 s.pa := fun s hs => by
  obtain ⟨i, x, hx, rfl⟩ := cyL_mem hs
  have := (List.getElem?_eq_some_iff.1 hx).1
  simp only [cyS, I64]
  omega
end Go.Proofs.YtegcmciglakicaaGreat
namespace Go.Proofs.YtegcmciglakicaaGreat
open Go.RowKit Go.Exe
set_option linter.unusedVariables false
set_option linter.unusedSimpArgs false
theorem bestN_one {l : List Spn} {t : Int} (ht : ∀ s ∈ l, s.tr = t) (hn : (idsOf l).Nodup) {k : Nat} {p : Spn} (hk : l[k]? = some p) : ∀ n, bestN l (t, p.id) n = if k < n then some k else none
  | 0 => by simp [bestN]
  | n + 1 => by
    have ih := bestN_one ht hn hk n
    have hkl := (List.getElem?_eq_some_iff.1 hk).1
    simp only [bestN]
    cases hx : l[n]? with
    | none =>
      simp only
      rw [ih]
      have := List.getElem?_eq_none_iff.1 hx
      rw [if_pos (by omega), if_pos (by omega)]
    | some x =>
      simp only
      have hxm := List.mem_of_getElem? hx
      by_cases hnk : n = k
      · subst hnk
        rw [hk] at hx
        cases hx
        rw [ih, if_neg (Nat.lt_irrefl n)]
        simp [better, ht p (List.mem_of_getElem? hk)]
      · have hne : ¬ x.id = p.id := fun e => by
          have h1 : (idsOf l)[n]? = some x.id := by simp [idsOf, hx]
          have h2 : (idsOf l)[k]? = some p.id := by simp [idsOf, hk]
          obtain ⟨h3, h4⟩ := List.getElem?_eq_some_iff.1 h1
          obtain ⟨h5, h6⟩ := List.getElem?_eq_some_iff.1 h2
          exact hnk ((List.getElem_inj hn).1 (by rw [h4, h6, e]))
        have h1 : ((x.tr == t) && (x.id == p.id)) = false := by simp [hne]
        rw [h1, ih]
        simp only [Bool.false_eq_true, if_false]
        split <;> split <;> first | rfl | omega
theorem bestS_one {l : List Spn} {t : Int} (ht : ∀ s ∈ l, s.tr = t) (hn : (idsOf l).Nodup) : ∀ p ∈ l, bestS l (t, p.id) = some p := fun p hp => by
  obtain ⟨k, hk⟩ := List.getElem?_of_mem hp
  have hkl := (List.getElem?_eq_some_iff.1 hk).1
  rw [bestS, bestN_one ht hn hk, if_pos hkl]
  simpa using hk
/-! ### the model's shapes are the program's -/
theorem canons_fix {l : List Shp} (h : ∀ x ∈ l, x.canon = x) : canons l = l := by
  rw [canons_map]
  exact (List.map_congr_left h).trans (List.map_id' l)
theorem canon_srt {s o : ByteArray} {l : List Shp} (h : ∀ x ∈ l, x.canon = x) : (Shp.mk s o (srt l)).canon = .mk s o (srt l) := by
  have h2 : ∀ x ∈ srt l, x.canon = x := fun x hx => h x ((srt_perm l).subset hx)
  simp only [Shp.canon]
  rw [canons_fix h2, srt_fix (srt_sorted l)]
theorem shpF_canon (ss : List Spn) : ∀ (f : Nat) (id : Int), (shpF ss f id).canon = shpF ss f id
  | 0, id => rfl
  | f + 1, id => by
    simp only [shpF]
    split
    · refine canon_srt fun x hx => ?_
      obtain ⟨c, _, rfl⟩ := List.mem_map.1 hx
      exact shpF_canon ss f c
    · rfl
theorem ofM_shpF (ss : List Spn) : ∀ (f : Nat) (id : Int), ofM ss f id = shpF ss f id
  | 0, id => rfl
  | f + 1, id => by
    cases h : spnOf ss id with
    | some p =>
      simp only [ofM, shpF, h]
      rw [show (kidsF ss id).map (ofM ss f) = (kidsF ss id).map (shpF ss f) from List.map_congr_left fun c _ => ofM_shpF ss f c]
      simp only [Shp.canon]
      rw [canons_fix fun x hx => by obtain ⟨c, _, rfl⟩ := List.mem_map.1 hx; exact shpF_canon ss f c]
    | none => simp only [ofM, shpF, h]
theorem traceM_eq (ss : List Spn) (f : Nat) (ks : List Int) : (Shp.mk .empty .empty (ks.map (ofM ss f))).canon = .mk .empty .empty (srt (ks.map (shpF ss f))) := by
  rw [show ks.map (ofM ss f) = ks.map (shpF ss f) from List.map_congr_left fun c _ => ofM_shpF ss f c]
  simp only [Shp.canon]
  rw [canons_fix fun x hx => by obtain ⟨c, _, rfl⟩ := List.mem_map.1 hx; exact shpF_canon ss f c]
/-! ### how large -/
theorem filt_len {α : Type} (p : α → Bool) : ∀ l : List α, (l.filter fun x => !p x).length + (l.filter p).length = l.length
  | [] => rfl
  | x :: r => by
    have := filt_len p r
    cases h : p x <;> simp [h] <;> omega
theorem sizes_perm' {l m : List Shp} (h : l.Perm m) : sizes l = sizes m := by
  induction h with
  | nil => rfl
  | cons x _ ih => simp only [sizes, ih]
  | swap x y l => simp only [sizes]; omega
  | trans _ _ h1 h2 => rw [h1, h2]
theorem sizes_lev {ss : List Spn} (hn : (idsOf ss).Nodup) : ∀ (f d : Nat), sizes ((lev ss d).map (shpF ss f)) = ((List.range (f + 1)).map fun e => (lev ss (d + e)).length).sum
  | 0, d => by
    have : ∀ l : List Int, sizes (l.map (shpF ss 0)) = l.length := by
      intro l
      induction l with
      | nil => rfl
      | cons x r ih =>
        have hx : (shpF ss 0 x).size = 1 := by simp [shpF, Shp.size, sizes]
        simp only [List.map_cons, sizes, hx, List.length_cons]
        rw [ih]
        omega
    simp [this]
  | f + 1, d => by
    have ih := sizes_lev hn f (d + 1)
    have key : ∀ l : List Int, (∀ x ∈ l, x ∈ idsOf ss) → sizes (l.map (shpF ss (f + 1))) = l.length + sizes ((l.flatMap (kidsF ss)).map (shpF ss f)) := by
      intro l
      induction l with
      | nil => intro _; rfl
      | cons x r ihr =>
        intro h
        obtain ⟨p, hp, rfl⟩ := List.mem_map.1 (h x (by simp))
        have h1 : (shpF ss (f + 1) p.id).size = 1 + sizes ((kidsF ss p.id).map (shpF ss f)) := by
          simp only [shpF, spnOf_at hn hp, Shp.size]
          rw [sizes_perm' (srt_perm _)]
        simp only [List.map_cons, sizes, List.flatMap_cons, List.map_append, sizes_app, List.length_cons]
        rw [h1, ihr fun y hy => h y (by simp [hy])]
        omega
    rw [key _ fun x hx => lev_ids d hx]
    rw [show (lev ss d).flatMap (kidsF ss) = lev ss (d + 1) from rfl, ih, List.range_succ_eq_map (n := f + 1)]
    simp only [List.map_cons, List.map_map, List.sum_cons, Nat.add_zero, Function.comp_def]
    congr 2
    refine List.map_congr_left fun e _ => ?_
    rw [show d + 1 + e = d + (e + 1) by omega]
def cycC (ss : List Spn) : Nat := (ss.filter fun s => decide (depN ss ss.length s.id < 0)).length
theorem depN_of {ss : List Spn} (hn : (idsOf ss).Nodup) {x : Int} {e : Nat} (h : x ∈ lev ss e) : ∀ d, e < d → depN ss d x = e
  | d + 1, hd => by
    simp only [depN]
    by_cases h1 : x ∈ lev ss d
    · rw [if_pos h1, lev_one hn d e h1 h]
    · rw [if_neg h1]
      exact depN_of hn h d (by
        have : d ≠ e := fun e' => h1 (e' ▸ h)
        omega)
theorem size_all {n : Nat} {ss : List Spn} (hn : (idsOf ss).Nodup) (hl : ss.length = n) : sizes ((lev ss 0).map (shpF ss n)) + cycC ss = n := by
  subst hl
  rw [sizes_lev hn]
  have hend : lev ss ss.length = [] := by
    cases h : lev ss ss.length with
    | nil => rfl
    | cons a b => have := dep_lt hn (d := ss.length) (by rw [h]; simp); omega
  have h1 : ((List.range (ss.length + 1)).map fun e => (lev ss (0 + e)).length).sum = ((List.range ss.length).flatMap (lev ss)).length := by
    rw [List.range_succ, List.map_append, List.sum_append]
    simp [hend, List.length_flatMap]
  rw [h1]
  have nd1 : ((List.range ss.length).flatMap (lev ss)).Nodup := List.pairwise_flatMap.2 ⟨fun a _ => lev_nodup hn a, (List.nodup_range (n := ss.length)).imp fun {a b} hab x hx y hy e => hab (lev_one hn a b hx (e ▸ hy))⟩
  have nd2 : ((ss.filter fun s => !decide (depN ss ss.length s.id < 0)).map Spn.id).Nodup := hn.sublist (List.Sublist.map _ List.filter_sublist)
  have s1 : (List.range ss.length).flatMap (lev ss) ⊆ (ss.filter fun s => !decide (depN ss ss.length s.id < 0)).map Spn.id := fun x hx => by
    obtain ⟨e, he, hx⟩ := List.mem_flatMap.1 hx
    obtain ⟨p, hp, rfl⟩ := List.mem_map.1 (lev_ids e hx)
    refine List.mem_map_of_mem (List.mem_filter.2 ⟨hp, ?_⟩)
    rw [depN_of hn hx ss.length (List.mem_range.1 he)]
    simp
  have s2 : (ss.filter fun s => !decide (depN ss ss.length s.id < 0)).map Spn.id ⊆ (List.range ss.length).flatMap (lev ss) := fun x hx => by
    obtain ⟨p, hp, rfl⟩ := List.mem_map.1 hx
    obtain ⟨hp, hd⟩ := List.mem_filter.1 hp
    obtain ⟨e, he⟩ := depN_mem (ss := ss) (x := p.id) ss.length (by simpa using hd)
    have := dep_lt hn (d := e) (List.ne_nil_of_mem he)
    exact List.mem_flatMap.2 ⟨e, List.mem_range.2 this, he⟩
  have l1 := nd1.length_le_of_subset s1
  have l2 := nd2.length_le_of_subset s2
  have l3 : (ss.filter fun s => !decide (depN ss ss.length s.id < 0)).length + cycC ss = ss.length := filt_len _ _
  rw [List.length_map] at l1 l2
  omega
end Go.Proofs.YtegcmciglakicaaGreat
namespace Go.Proofs.YtegcmciglakicaaGreat
open Go.RowKit Go.Exe
set_option linter.unusedVariables false
set_option linter.unusedSimpArgs false
set_option maxHeartbeats 8000000
set_option maxRecDepth 100000
attribute [local irreducible] W AX Run RunD AStep AOp AOpX AStB AStH AStG Fits PCall GCall PostG Post Stop
theorem cycles_c (c141 : SortC Tryz.prog 141 14) (c60 : SortI Tryz.prog 60) (g62 : GrowC Tryz.prog 62 3 1 8) (c36 : SortC Tryz.prog 36 3) (c89 : SortC Tryz.prog 89 2) (p : List (Nat × Nat)) (hp : ∀ x ∈ p, x.1 < 256 ∧ x.2 < 256) :
    PCall Tryz.prog 4 [.c (.im (.sl 46 (p.map lpA)))] (ft (.bool true)) := by
  have c7 := known_all c36 c89
  by_cases h8 : p.length > 8
  · have e1 : decide ((p.length : Int) > 8) = true := by simp; omega
    refine PCall.intro (nt := 121) (rs := [.tmp 2]) Tryz.func4 rfl ⟨by kernel_rfl, by kernel_rfl, by kernel_rfl⟩ (by simp) ?_
    rintro ⟨P, w0, ok0, may, np, pblk⟩ rfl rfl
    repeat' (first | ((show W _ _ _ _); first | refine W.seq fun K hK => ?_ | refine W.block ?_ | ((first | refine wR ?_ | refine wD ?_ | refine W.skip ?_ | refine W.exit ?_ | refine W.ret (Post.ret ?_)); simp only [go_sem, reduceCtorEq, List.length_map, e1]) | refine wT ?_ | refine wF ?_ | refine wC (fun h => ?_) (fun h => ?_)) | ((show AX _ _ _ _ _); (first | refine aP ?_ | refine aF ?_ | refine aL ?_ | refine aU (hnn := by simp only [go_sem, reduceCtorEq, List.length_map, e1]) ?_ | refine aM ?_ | refine aN ?_ | refine aR ?_ | refine aD ?_); simp only [go_sem, reduceCtorEq, List.length_map, e1]) | refine iK ?_ | refine aI2 ?_ | (refine hK _ ?_; clear hK K) | clear hK K)
  have e1 : decide ((p.length : Int) > 8) = false := by simp; omega
  refine PCall.intro (nt := 121) (rs := [.tmp 2]) Tryz.func4 rfl ⟨by kernel_rfl, by kernel_rfl, by kernel_rfl⟩ (by simp) ?_
  rintro ⟨P, w0, ok0, may, np, pblk⟩ rfl rfl
  repeat' (first | ((show W _ _ _ _); first | refine W.seq fun K hK => ?_ | refine W.block ?_ | ((first | refine wR ?_ | refine wD ?_ | refine W.skip ?_ | refine W.exit ?_ | refine W.ret (Post.ret ?_)); simp only [go_sem, reduceCtorEq, List.length_map, e1]) | refine wT ?_ | refine wF ?_ | refine wC (fun h => ?_) (fun h => ?_)) | ((show AX _ _ _ _ _); (first | refine aP ?_ | refine aF ?_ | refine aL ?_ | refine aU (hnn := by simp only [go_sem, reduceCtorEq, List.length_map, e1]) ?_ | refine aM ?_ | refine aN ?_ | refine aR ?_ | refine aD ?_); simp only [go_sem, reduceCtorEq, List.length_map, e1]) | refine iK ?_ | refine aI2 ?_ | (refine hK _ ?_; clear hK K) | clear hK K)
  refine W.loopF (T := fun i : Nat => { t := [(0, .c (.im (.sl 46 (p.map lpA)))), (2, ft (.bool false)), (3, .c (.ref 0)), (4, ft (.int .i64 (i : Nat)))], h := [(0, .row 35 (imR (((cyL p).take i).map cyA)))], nx := 1, ex := [], nt := 121 })
    (Inv := fun i => i ≤ p.length) (μ := fun i => p.length - i) (x0 := 0) ?_ (Nat.zero_le _) ?_
  · refine Fits.adopt 3 99 35 rfl rfl rfl tE35 rfl ?_
    refine Fits.fit [(99, 0)] [0, 2, 3, 4] 1 rfl rfl ?_
    simp only [go_sem, List.take_zero, List.map_nil, imR_nil]
    exact Fits.rfl
  rintro i hi KL hKL
  by_cases hlt : i < p.length
  · obtain ⟨x, hx, hm, hd⟩ := drop_at hlt
    have e2 : decide ((i : Int) < p.length) = true := by simp; omega
    have hw := w64s i (by omega)
    have hxl := hp x hm
    clear c7
    have q1 : Int.tmod (x.1 : Int) 10 = ((x.1 % 10 : Nat) : Int) := by rw [Int.tmod_eq_emod_of_nonneg (by omega)]; omega
    have q2 : IntKind.i64.wrap ((x.1 % 10 : Nat) : Int) = ((x.1 % 10 : Nat) : Int) := by rw [w64 (by omega) (by omega)]
    have q3 : Int.tmod (x.2 : Int) 3 = ((x.2 % 3 : Nat) : Int) := by rw [Int.tmod_eq_emod_of_nonneg (by omega)]; omega
    have d1 : decide (x.2 % 3 < 3) = true := by simp; omega
    have s1 : ([[.im (.flat (.string ⟨#[97]⟩))], [.im (.flat (.string ⟨#[98]⟩))], [.im (.flat (.string ⟨#[99]⟩))]] : List (List Cell))[x.2 % 3]? = some [.im (.flat (.string (sv3 (x.2 % 3))))] := by
      rcases (by omega : x.2 % 3 = 0 ∨ x.2 % 3 = 1 ∨ x.2 % 3 = 2) with h | h | h <;> simp [h, sv3]
    have hsn : (cyL p).take (i + 1) = (cyL p).take i ++ [cyS i x] := by rw [List.take_add_one, cyL_at hx]; rfl
    have himR : imR (((cyL p).take (i + 1)).map cyA) = imR (((cyL p).take i).map cyA) ++ [(cyA (cyS i x)).map .im] := by rw [hsn]; simp [imR, imL]
    repeat' (first | ((show W _ _ _ _); first | refine W.seq fun K hK => ?_ | refine W.block ?_ | ((first | refine wR ?_ | refine wD ?_ | refine W.skip ?_ | refine W.exit ?_ | refine W.ret (Post.ret ?_)); simp only [go_sem, reduceCtorEq, List.getElem?_map, hx, lpA, e2, hw, List.length_map, imR_len, List.length_take, cyL_len, q1, q2, q3, d1, s1]) | refine wT ?_ | refine wF ?_ | refine wC (fun h => ?_) (fun h => ?_)) | ((show AX _ _ _ _ _); (first | refine aP ?_ | refine aF ?_ | refine aL ?_ | refine aU (hnn := by simp only [go_sem, reduceCtorEq, List.getElem?_map, hx, lpA, e2, hw, List.length_map, imR_len, List.length_take, cyL_len, q1, q2, q3, d1, s1]) ?_ | refine aM ?_ | refine aN ?_ | refine aR ?_ | refine aD ?_); simp only [go_sem, reduceCtorEq, List.getElem?_map, hx, lpA, e2, hw, List.length_map, imR_len, List.length_take, cyL_len, q1, q2, q3, d1, s1]) | refine iK ?_ | refine aI2 ?_ | (refine hK _ ?_; clear hK K) | clear hK K)
    refine hKL.to (i + 1) (by omega) (by omega) ?_
    refine Fits.fit [(26, 0)] [0, 2, 3, 4] 1 rfl rfl ?_
    simp only [go_sem, himR, cyA, cyS, List.map]
    exact Fits.rfl
  obtain rfl : i = p.length := by omega
  have e2 : decide ((p.length : Int) < p.length) = false := by simp
  clear hKL
  have hlen := cyL_len p
  have hsrt := cyL_sorted p
  have hI := cyL_I (p := p) (by omega)
  have hof := ofS_fix (t := 3) cyL_tr hsrt
  have hle := cyL_le p
  repeat' (first | ((show W _ _ _ _); first | refine W.stop (id := 8) ?_ | refine W.seq fun K hK => ?_ | refine W.block ?_ | ((first | refine wR ?_ | refine wD ?_ | refine W.skip ?_ | refine W.exit ?_ | refine W.ret (Post.ret ?_)); simp only [go_sem, reduceCtorEq, e2, List.length_map]) | refine wT ?_ | refine wF ?_ | refine wC (fun h => ?_) (fun h => ?_)) | ((show AX _ _ _ _ _); (first | refine aP ?_ | refine aF ?_ | refine aL ?_ | refine aU (hnn := by simp only [go_sem, reduceCtorEq, e2, List.length_map]) ?_ | refine aM ?_ | refine aN ?_ | refine aR ?_ | refine aD ?_); simp only [go_sem, reduceCtorEq, e2, List.length_map]) | refine iK ?_ | refine aI2 ?_ | (refine hK _ ?_; clear hK K) | clear hK K)
  refine Stop.out ?_
  rw [show (cyL p).take p.length = cyL p by rw [← hlen, List.take_length]]
  refine W.fits (s' := { t := [(2, ft (.bool false)), (3, spsT (cyL p))], h := [], nx := 1, ex := [], nt := 121 }) ?_ ?_
  · refine Fits.rowLe 0 _ rfl hle ?_
    refine Fits.freeze 0 rfl (unim_im _) ?_
    refine Fits.seeT 3 0 rfl (.inl rfl) rfl ?_
    refine Fits.fit [] [2, 3] 1 rfl rfl ?_
    simp only [go_sem]
    exact Fits.rfl
  generalize hl : cyL p = l at *
  have hnd := nodup_sorted hsrt
  have c13 := build_c c141 c60 g62 l 3 (by rw [hof]; exact hnd) (by rw [hof]; exact hI)
  rw [hof] at c13
  simp only [trT, trA, treeOf, List.map] at c13
  clear c7
  repeat' (first | ((show W _ _ _ _); first | refine W.seq fun K hK => ?_ | refine W.block ?_ | ((first | refine wR ?_ | refine wD ?_ | refine W.skip ?_ | refine W.exit ?_ | refine W.ret (Post.ret ?_)); simp only [go_sem, reduceCtorEq]) | refine wT ?_ | refine wF ?_ | refine wC (fun h => ?_) (fun h => ?_)) | ((show AX _ _ _ _ _); (first | refine aP ?_ | refine aF ?_ | refine aL ?_ | refine aU ?_ | refine aM ?_ | refine aN ?_ | refine aR ?_ | refine aD ?_); simp only [go_sem, reduceCtorEq]) | refine iK ?_ | refine aI2 ?_ | (refine hK _ ?_; clear hK K) | clear hK K)
  refine W.loopF (T := fun i : Nat => { t := [(2, ft (.bool false)), (3, spsT l), (5, .c (.ptr 0 0)), (6, ft (.int .i64 (cntI l i : Nat))), (7, ft (.int .i64 (i : Nat)))], h := [(0, .box 50 [fl (.int .i64 3), .im (.sl 59 ((nodesD l l.length).map ndA)), .im (.sl 3 ((rootsN l l.length).map iA)), .im (.sl 3 ((orphN l l.length).map iA)), .im (.sl 3 ((cycN l l.length).map iA)), .im (.sl 3 ((srtI (missN l l.length)).map iA))])], nx := 1, ex := [], nt := 121 })
    (Inv := fun i => i ≤ l.length) (μ := fun i => l.length - i) (x0 := 0) ?_ (Nat.zero_le _) ?_
  · refine Fits.fit [(3, 0)] [2, 3, 5, 6, 7] 1 rfl rfl ?_
    simp only [go_sem, cntI, List.take_zero, List.filter_nil, List.length_nil]
    exact Fits.rfl
  rintro i hi KL hKL
  have hcl := cntI_le l i
  by_cases hlt : i < l.length
  · obtain ⟨s, hx, hm, hd⟩ := drop_at hlt
    have e2 : decide ((i : Int) < l.length) = true := by simp; omega
    have hw := w64s i (by omega)
    have hw2 := w64s (cntI l i) (by omega)
    have hstr : s.tr = 3 := by rw [← hl] at hm; exact cyL_tr s hm
    have c15 := refOf_c s
    have c14 := of_c1 c141 c60 g62 c36 l (3, s.id) l hof hsrt hI s hm rfl
    obtain ⟨k, hk⟩ := List.getElem?_of_mem hm
    have hnk : (nodesD l l.length)[k]? = some ⟨s.id, s.pa, depN l l.length s.id, kidsF l s.id⟩ := by simp [nodesD, hk]
    have hnode := nodeT_at (nodesD_sorted hsrt) hnk
    have c16 := node_c (treeOf 3 l) s.id (nodesD_sorted hsrt)
    rw [show (treeOf 3 l).nds = nodesD l l.length from rfl, hnode] at c16
    have hst := cntI_step hx
    by_cases hdep : depN l l.length s.id < 0
    · have e3 : decide (depN l l.length s.id < 0) = true := by simpa using hdep
      rw [if_pos hdep] at c14 hst
      have c11 : PCall Tryz.prog 11 [.g zShp, .g zShp] (ft (.bool true)) := by
        have := all11 (.mk .empty .empty []) (.mk .empty .empty [])
        rw [same_refl] at this
        exact this.conv (Al.cons (.g CLe.nil3) (Al.cons (.g CLe.nil3) Al.nil)) .rfl
      simp only [spT, spA, refA, trT, trA, treeOf, List.map, ndA, zShp, hstr] at c15 c14 c16 c11
      repeat' (first | ((show W _ _ _ _); first | refine W.seq fun K hK => ?_ | refine W.block ?_ | ((first | refine wR ?_ | refine wD ?_ | refine W.skip ?_ | refine W.exit ?_ | refine W.ret (Post.ret ?_)); simp only [go_sem, reduceCtorEq, List.getElem?_map, hx, spA, e2, e3, hw, hw2, hstr, List.length_map]) | refine wT ?_ | refine wF ?_ | refine wC (fun h => ?_) (fun h => ?_)) | ((show AX _ _ _ _ _); (first | refine aP ?_ | refine aF ?_ | refine aL ?_ | refine aU (hnn := by simp only [go_sem, reduceCtorEq, List.getElem?_map, hx, spA, e2, e3, hw, hw2, hstr, List.length_map]) ?_ | refine aM ?_ | refine aN ?_ | refine aR ?_ | refine aD ?_); simp only [go_sem, reduceCtorEq, List.getElem?_map, hx, spA, e2, e3, hw, hw2, hstr, List.length_map]) | refine iK ?_ | refine aI2 ?_ | (refine hK _ ?_; clear hK K) | clear hK K)
      refine hKL.to (i + 1) (by omega) (by omega) (Fits.fit [(0, 0)] [2, 3, 5, 6, 7] 1 rfl rfl ?_)
      simp only [go_sem, hst]
      exact Fits.rfl
    · have e3 : decide (depN l l.length s.id < 0) = false := by simpa using hdep
      rw [if_neg hdep] at c14 hst
      obtain ⟨d, hd⟩ := depN_mem l.length (by omega : 0 ≤ depN l l.length s.id)
      obtain ⟨s', o', ks', he⟩ : ∃ s' o' ks', shpF l l.length s.id = .mk s' o' ks' := by
        cases h : shpF l l.length s.id with
        | mk a b c => exact ⟨a, b, c, rfl⟩
      have c17 := ofM_c 3 l l hsrt (by omega) (bestS_one (fun s hs => by rw [← hl] at hs; exact cyL_tr s hs) hnd) l.length d s.id hd (by omega)
      rw [ofM_shpF, he] at c17
      have c11 := all11 (.mk s' o' ks') (.mk s' o' ks')
      rw [same_refl] at c11
      rw [he] at c14
      simp only [spT, spA, refA, trT, trA, treeOf, List.map, ndA, hstr, shT_mk, Shp.av] at c15 c14 c16 c17 c11
      repeat' (first | ((show W _ _ _ _); first | refine W.seq fun K hK => ?_ | refine W.block ?_ | ((first | refine wR ?_ | refine wD ?_ | refine W.skip ?_ | refine W.exit ?_ | refine W.ret (Post.ret ?_)); simp only [go_sem, reduceCtorEq, List.getElem?_map, hx, spA, e2, e3, hw, hw2, hstr, List.length_map]) | refine wT ?_ | refine wF ?_ | refine wC (fun h => ?_) (fun h => ?_)) | ((show AX _ _ _ _ _); (first | refine aP ?_ | refine aF ?_ | refine aL ?_ | refine aU (hnn := by simp only [go_sem, reduceCtorEq, List.getElem?_map, hx, spA, e2, e3, hw, hw2, hstr, List.length_map]) ?_ | refine aM ?_ | refine aN ?_ | refine aR ?_ | refine aD ?_); simp only [go_sem, reduceCtorEq, List.getElem?_map, hx, spA, e2, e3, hw, hw2, hstr, List.length_map]) | refine iK ?_ | refine aI2 ?_ | (refine hK _ ?_; clear hK K) | clear hK K)
      refine hKL.to (i + 1) (by omega) (by omega) (Fits.fit [(0, 0)] [2, 3, 5, 6, 7] 1 rfl rfl ?_)
      simp only [go_sem, hst, Nat.add_zero]
      exact Fits.rfl
  · obtain rfl : i = l.length := by omega
    have e2 : decide ((l.length : Int) < l.length) = false := by simp
    clear hKL c13
    have c12 := trace_c c141 c60 g62 c36 l 3 l hof hsrt hI
    have c18 := traceM_c c141 c60 g62 3 l l hof hsrt hI (bestS_one (fun s hs => by rw [← hl] at hs; exact cyL_tr s hs) hnd)
    rw [traceM_eq] at c18
    have hsz := size_all hnd rfl
    have hcc : cntI l l.length = cycC l := by simp [cntI, cycC]
    generalize hks : srt ((lev l 0).map (shpF l l.length)) = ks at *
    have hkz : (Shp.mk .empty .empty ks).size = 1 + l.length - cycC l := by
      simp only [Shp.size]
      rw [← hks, sizes_perm' (srt_perm _)]
      omega
    have c19 := all17 (.mk .empty .empty ks) (by rw [hkz]; omega)
    have c11 := all11 (.mk .empty .empty ks) (.mk .empty .empty ks)
    rw [same_refl] at c11
    rw [hkz] at c19
    have w1 : IntKind.i64.wrap (1 + (l.length : Int)) = ((1 + l.length : Nat) : Int) := by rw [w64 (by omega) (by omega)]; simp
    have w2 : IntKind.i64.wrap (((1 + l.length : Nat) : Int) - ((cycC l : Nat) : Int)) = ((1 + l.length - cycC l : Nat) : Int) := by rw [w64 (by omega) (by omega)]; omega
    simp only [shT_mk] at c12 c18 c19 c11
    rw [hcc]
    repeat' (first | ((show W _ _ _ _); first | refine W.seq fun K hK => ?_ | refine W.block ?_ | ((first | refine wR ?_ | refine wD ?_ | refine W.skip ?_ | refine W.exit ?_ | refine W.ret (Post.ret ?_)); simp only [go_sem, reduceCtorEq, e2, List.length_map, w1, w2]) | refine wT ?_ | refine wF ?_ | refine wC (fun h => ?_) (fun h => ?_)) | ((show AX _ _ _ _ _); (first | refine aP ?_ | refine aF ?_ | refine aL ?_ | refine aU (hnn := by simp only [go_sem, reduceCtorEq, e2, List.length_map, w1, w2]) ?_ | refine aM ?_ | refine aN ?_ | refine aR ?_ | refine aD ?_); simp only [go_sem, reduceCtorEq, e2, List.length_map, w1, w2]) | refine iK ?_ | refine aI2 ?_ | (refine hK _ ?_; clear hK K) | clear hK K)
end Go.Proofs.YtegcmciglakicaaGreat
namespace Go.Proofs.YtegcmciglakicaaGreat
open Go.ChangeShapes Go.WideShapes Go.ChangeAt Go.RowKit Go.Exe
set_option maxRecDepth 100000

theorem Tryz.own : ownKnob Tryz.prog.godebug = none := by kernel_rfl
theorem Tryz.laidOut : laidOutB Tryz.prog = true := by kernel_rfl
theorem bytes46 : Tryz.prog.bytesOf 46 = 2 := by kernel_rfl
theorem cells46 : Tryz.prog.cellsOf 46 = 2 := by kernel_rfl
theorem cells5 : Tryz.prog.cellsOf 5 = 1 := by kernel_rfl
def fld0 : Field := { name := "Parent", type := 5, offset := 0, embedded := false, tag := "", pkgPath := "", byteOffset := 0 }
def fld1 : Field := { name := "Service", type := 5, offset := 1, embedded := false, tag := "", pkgPath := "", byteOffset := 1 }
theorem under46 : Tryz.prog.underlying 46 = some (.struct #[fld0, fld1]) := by kernel_rfl
theorem under44 : Tryz.prog.underlying 44 = some (.slice 46) := by kernel_rfl
theorem under5 : Tryz.prog.underlying 5 = some (.int .u8) := by kernel_rfl
theorem under4 : Tryz.prog.underlying 4 = some .bool := by kernel_rfl
/-- A struct of two bytes. -/
theorem loop_in {H : Type} {enc : TypeId × Value → H} {w : World} {base : Nat} {spare : Nat → Bool} {held : Bool} {n : Nat} {cs : List Value} {y : DataW H × List MemPlace} (h : DataW.trod enc Tryz.prog w base spare held n 46 cs = some y) :
    ∃ a b : Nat, a < 256 ∧ b < 256 ∧ cs = [.int .u8 (a : Int), .int .u8 (b : Int)] := by
  obtain ⟨y0, y1, m, _, hl, h0, h1⟩ := trod_struct2 under46 h
  rw [cells46] at hl
  match cs, hl with
  | [c0, c1], _ =>
    have h0 : DataW.trod enc Tryz.prog w base spare held m 5 (([c0, c1].drop 0).take (Tryz.prog.cellsOf 5)) = some y0 := h0
    have h1 : DataW.trod enc Tryz.prog w base spare held m 5 (([c0, c1].drop 1).take (Tryz.prog.cellsOf 5)) = some y1 := h1
    rw [cells5] at h0 h1
    obtain ⟨a, e0, _, w0⟩ := DataW.trod_int under5 h0
    obtain ⟨b, e1, _, w1⟩ := DataW.trod_int under5 h1
    simp at e0 e1
    simp [Lit.wf, IntKind.min, IntKind.max, IntKind.bits, IntKind.signed] at w0 w1
    refine ⟨a.toNat, b.toNat, by omega, by omega, ?_⟩
    rw [e0, e1, Int.toNat_of_nonneg w0.1, Int.toNat_of_nonneg w1.1]
/-- A row of such structs that came in. -/
theorem loops_in {H : Type} {enc : TypeId × Value → H} {w : World} {base j : Nat} {v : Value} {d : DataW H} {ps : List MemPlace} {ts : List TypeId} {ds : List (DataW H)} (hok : Value.okWide Tryz.prog w .any base 44 v)
    (h : DataW.Trod enc Tryz.prog w 0 (fun _ => true) true 44 v d ps) (hsz : (DataW.weightsEach Tryz.prog ts ds).all (· ≤ reachBytes) = true) (ht : ts[j]? = some 44) (hd : ds[j]? = some d) :
    ∃ p : List (Nat × Nat), (∀ x ∈ p, x.1 < 256 ∧ x.2 < 256) ∧ RepT Tryz.prog (fun _ => True) w U0 L0 v (.c (.im (.sl 46 (p.map lpA)))) := by
  obtain ⟨a0, len, cap, rfl⟩ := okWide_slice under44 hok
  obtain ⟨fuel, h⟩ := h
  rcases DataW.trod_slice under44 h with ⟨hc, hx⟩ | ⟨a, len', cap', elems, rest, n, _, hc, hx, _, hl, hm, hlen, hel, hsp, _⟩
  · simp [Value.cells] at hc
    obtain ⟨rfl, rfl, rfl⟩ := hc
    exact ⟨[], by simp, RepA.nil⟩
  · simp [Value.cells] at hc
    obtain ⟨rfl, rfl, rfl⟩ := hc
    simp only [Prod.mk.injEq] at hx
    obtain ⟨rfl, rfl⟩ := hx
    have hreach : len * 2 ≤ 140737488355328 := by
      have := sized_slice hsz ht hd under44
      rw [bytes46] at this
      simp only [List.length_map, reachBytes] at this
      omega
    rw [cells46] at hel
    have each : ∀ i, i < len → ∃ x y : Nat, x < 256 ∧ y < 256 ∧ w.cell? (a.add (i * 2)) = some (.int .u8 (x : Int)) ∧ w.cell? (a.add (i * 2 + 1)) = some (.int .u8 (y : Int)) := fun i hi => by
      have h1 := hel i hi
      rw [List.getElem?_eq_getElem (by omega), Option.bind_eq_some_iff] at h1
      obtain ⟨cs, h2, h3⟩ := h1
      obtain ⟨x, y, hx, hy, rfl⟩ := loop_in h3
      obtain ⟨_, _, h4⟩ := World.cells?_some h2
      refine ⟨x, y, hx, hy, ?_, ?_⟩
      · have := h4 0 (by omega); simpa [add_zero] using this
      · have := h4 1 (by omega); rw [add_add] at this; simpa using this
    obtain ⟨f, hf⟩ : ∃ f : Nat → Nat × Nat, ∀ i, i < len → (f i).1 < 256 ∧ (f i).2 < 256 ∧ w.cell? (a.add (i * 2)) = some (.int .u8 ((f i).1 : Int)) ∧ w.cell? (a.add (i * 2 + 1)) = some (.int .u8 ((f i).2 : Int)) := by
      refine ⟨fun i => if hi : i < len then ⟨(each i hi).choose, (each i hi).choose_spec.choose⟩ else (0, 0), fun i hi => ?_⟩
      simp only [dif_pos hi]
      exact (each i hi).choose_spec.choose_spec
    refine ⟨(List.range len).map f, fun x hx => ?_, ?_⟩
    · obtain ⟨i, hi, rfl⟩ := List.mem_map.1 hx
      have := hf i (List.mem_range.1 hi)
      exact ⟨this.1, this.2.1⟩
    · refine RepA.sl (fun j i => if i = 0 then .int .u8 ((f j).1 : Int) else .int .u8 ((f j).2 : Int)) tE46 (by omega) (by simp) hl hm hreach (fun j x hx => ?_) (fun j i hj hi => ?_) (fun _ => trivial) fun j i x y hx hy => ?_
      · simp only [List.map_map, List.getElem?_map, Option.map_eq_some_iff] at hx
        obtain ⟨i, _, rfl⟩ := hx
        rfl
      · have h := hf j hj
        match i, hi with
        | 0, _ => simpa using h.2.2.1
        | 1, _ => simpa using h.2.2.2
      · simp only [List.map_map, List.getElem?_map, Option.map_eq_some_iff] at hx
        obtain ⟨k, hk, rfl⟩ := hx
        have hjk : k = j := by
          have hjl : j < len := by have := (List.getElem?_eq_some_iff.1 hk).1; simpa using this
          rw [List.getElem?_range hjl] at hk
          exact (Option.some.inj hk).symm
        subst hjk
        match i with
        | 0 => simp [lpA] at hy; subst hy; exact RepA.flat rfl
        | 1 => simp [lpA] at hy; subst hy; exact RepA.flat rfl
        | i + 2 => simp [lpA] at hy
end Go.Proofs.YtegcmciglakicaaGreat
namespace Go.Proofs.YtegcmciglakicaaGreat
open Go.ChangeShapes Go.WideShapes Go.ChangeAt Go.RowKit Go.Exe
set_option maxRecDepth 100000
set_option maxHeartbeats 1600000

def cyclesC : Prop := ∀ a : List (Nat × Nat), (∀ x ∈ a, x.1 < 256 ∧ x.2 < 256) → PCall Tryz.prog 4 [.c (.im (.sl 46 (a.map lpA)))] (ft (.bool true))
theorem cycles_lifted (hc : cyclesC) (os : Os) (started : os.Started) (H : Type) (enc : TypeId × Value → H) :
    ReturnsInHanded {} Tryz.checked os 4 .any (Rows.shapeCyclesSpec.pre6 enc Tryz.prog Tryz.f4 Rows.shapeCyclesRow.domain false) (Rows.shapeCyclesSpec.post enc Tryz.prog Tryz.f4 false Rows.shapeCyclesRow.fresh Rows.shapeCyclesRow.handsOn Rows.shapeCyclesRow.again) := by
  refine returnsInHanded_of_change_sized (C := Tryz.checked) Tryz.own started (by kernel_rfl) Tryz.func4
    (ChangeSpec.witness6 (enc := enc) (C := Tryz.checked) false ⟨#[], #[.slice none 0 0], []⟩ 8 (by kernel_rfl) (by kernel_rfl) (by kernel_rfl) (by kernel_rfl)) ?_
  intro W base args ds gs before hval0 hW _ hsz0 _
  have hsz : (DataW.weightsEach Tryz.prog (Tryz.f4.params.toList ++ Rows.shapeCyclesSpec.plain.varTypes Tryz.prog) (ds ++ gs)).all (· ≤ reachBytes) = true := hsz0
  clear hsz0
  have hval : ∀ (j : Nat) t v, Tryz.f4.params[j]? = some t → args[j]? = some v → Value.okWide Tryz.prog W .any base t v := hval0
  have hW' := hW
  obtain ⟨p, q, hA0, hV, rfl, hfz, hnd⟩ := hW
  have hA : DataW.TrodAll enc Tryz.prog W 0 (fun _ => true) true Tryz.f4.params.toList args.toList ds p := hA0
  rw [Tryz.params4] at hA hval hsz
  obtain ⟨v0, d0, rfl, rfl, h0⟩ := trodAll_one hA
  obtain ⟨rfl, rfl⟩ := trodVars_none hV
  clear hA0 hval0
  simp only [List.append_nil] at hW'
  obtain ⟨a, ha0, ra0⟩ := loops_in (j := 0) (hval 0 44 v0 rfl rfl) h0 hsz rfl rfl
  have hlt : ∀ x ∈ p, x.block < W.heap.size := fun x hx => by simpa using hW'.lt x hx
  have hargs : ∀ (W' : World), Below W.heap.size W W' → DataW.TrodAll enc Tryz.prog W' 0 (fun b => decide (b < W.heap.size)) true Tryz.f4.params.toList [v0] [d0] p := fun W' hn => by
    have k : ∀ {v d ps}, DataW.Trod enc Tryz.prog W 0 (fun _ => true) true 44 v d ps → (∀ x ∈ ps, x.block < W.heap.size) → DataW.Trod enc Tryz.prog W' 0 (fun b => decide (b < W.heap.size)) true 44 v d ps :=
      fun h hl => Below.trod Tryz.laidOut (by kernel_rfl) (of_decide_eq_true (by kernel_rfl)) h hn hl
    rw [Tryz.params4]
    exact trodAll_mk1 (k h0 fun x hx => hlt x hx)
  have hcall := (hc a ha0).2 (fun _ => True) W [v0] (Al.cons ra0 Al.nil)
  refine hcall.mono fun e W' ⟨v, he, ⟨hB, _⟩, hr⟩ => ?_
  subst he
  obtain rfl : v = .bool true := RepA.flat_eq hr
  refine ⟨_, rfl, _, _, _, [], p, [], hW', ?_, ?_, ?_, hB.frame _, fun h => by cases h⟩
  · exact trodAll_mk1 (shut_bool under4 true)
  · exact hargs W' hB
  · rfl
theorem cycles_holds (hc : cyclesC) : Rows.ShapeCyclesSaid :=
  OpenClaim.holds_of_wide 4 Tryz.f4 rfl rfl rfl rfl rfl rfl rfl ⟨rfl, rfl, rfl, rfl, rfl⟩ rfl rfl rfl rfl rfl (by kernel_rfl) Tryz.func4 (by kernel_rfl)
    (of_decide_eq_true (by kernel_rfl)) (by unfold Func.isWrapper; rw [if_neg (by decide +kernel)]; exact ⟨rfl, rfl⟩)
    (fun os started H enc _ => cycles_lifted hc os started H enc)
end Go.Proofs.YtegcmciglakicaaGreat
namespace Go.Proofs.YtegcmciglakicaaGreat
open Go.RowKit Go.Exe
theorem ytegcmciglakicaagreat_shapeCycles_holds : Rows.ShapeCyclesSaid := cycles_holds fun p hp => cycles_c sort141_c sort60_c grow62_c sort36_c sort89_c p hp
end Go.Proofs.YtegcmciglakicaaGreat
