import Derived.Test.YtaaflhmfhnfjhaaGreatM8
import Derived.Test.YtaaflhmfhnfjhaaGreatM9
import Derived.Test.YtaaflhmfhnfjhaaGreatM7
import Derived.Test.YtaaflhmfhnfjhaaGreatM3
import Derived.Test.YtaaflhmfhnfjhaaGreatM6
import Derived.Test.YtaaflhmfhnfjhaaGreatM5
set_option linter.unusedVariables false
set_option linter.unusedSimpArgs false
set_option maxHeartbeats 8000000
set_option maxRecDepth 100000
namespace Go.Proofs.YtaaflhmfhnfjhaaGreat
open Go.RowKit Go.Exe
/-! ### the walk ends -/
theorem chooseF_is {bf : Ev → Ev → Bool} {l : List Spn} {lo cur : Ev} {y : Spn × Ev} (h : chooseF bf l lo cur = some y) : y.1 ∈ l ∧ askB bf (evOf y.1 false) cur = true ∧ (y.2 = cur ∨ askB bf y.2 cur = true) := by
  have key : ∀ (l : List Spn) (acc : Option (Spn × Ev)) (y : Spn × Ev), l.foldl (chStep bf lo cur) acc = some y → (y.1 ∈ l ∧ askB bf (evOf y.1 false) cur = true ∧ (y.2 = cur ∨ askB bf y.2 cur = true)) ∨ acc = some y := by
    intro l
    induction l with
    | nil => intro acc y h; exact .inr h
    | cons k l ih =>
      intro acc y h
      rcases ih _ _ h with h | h
      · exact .inl ⟨by simp [h.1], h.2⟩
      · rw [chStep_eq] at h
        by_cases hA : (askB bf (evOf k false) cur && askB bf lo (evOf k true) && askB bf (evOf k false) (evOf k true)) = true
        · rw [if_pos hA] at h
          have hA1 : askB bf (evOf k false) cur = true := by simp only [Bool.and_eq_true] at hA; exact hA.1.1
          have hv : (if askB bf (evOf k true) cur = true then evOf k true else cur) = cur ∨ askB bf (if askB bf (evOf k true) cur = true then evOf k true else cur) cur = true := by
            by_cases hB : askB bf (evOf k true) cur = true
            · rw [if_pos hB]; exact .inr hB
            · rw [if_neg hB]; exact .inl rfl
          generalize (if askB bf (evOf k true) cur = true then evOf k true else cur) = v at h hv
          cases acc with
          | none =>
            simp only [Option.some.injEq] at h
            subst h
            exact .inl ⟨by simp, hA1, hv⟩
          | some y0 =>
            simp only at h
            by_cases hB : askB bf y0.2 v = true
            · rw [if_pos hB] at h
              simp only [Option.some.injEq] at h
              subst h
              exact .inl ⟨by simp, hA1, hv⟩
            · rw [if_neg hB] at h; exact .inr h
        · rw [if_neg hA] at h; exact .inr h
  rcases key l none y h with h | h
  · exact h
  · simp at h
theorem wkF_len {bf : Ev → Ev → Bool} {kid : Int → List Spn} : ∀ {n : Nat} {s : Spn} {lo cur : Ev} {q : List Sg}, wkF bf kid n s lo cur = some q → q.length + 1 ≤ 2 ^ n
  | 0, _, _, _, _, h => by simp [wkF] at h
  | n + 1, s, lo, cur, q, h => by
    have hp : 1 ≤ 2 ^ n := Nat.one_le_two_pow
    have hs : 2 ^ (n + 1) = 2 ^ n + 2 ^ n := by rw [Nat.pow_succ]; omega
    cases hA : askB bf lo cur with
    | false => rw [wkF_no h hA]; simp; omega
    | true =>
      cases hC : chooseF bf (kid s.id) lo cur with
      | none => rw [wkF_none h hA hC]; simp; omega
      | some y =>
        obtain ⟨c, v⟩ := y
        obtain ⟨q1, q2, h1, h2, rfl⟩ := wkF_some h hA hC
        have h1 := wkF_len h1
        have h2 := wkF_len h2
        have h3 : (if v = cur then ([] : List Sg) else [⟨(s.tr, s.id), v, cur⟩]).length ≤ 1 := by split <;> simp
        simp only [List.length_append]
        omega
def evsL (ss : List Spn) : List Ev := ss.flatMap fun s => [evOf s false, evOf s true]
def rkE (ss : List Spn) (tm : Ev → Int) (x : Ev) : Nat := (evsL ss).countP fun y => decide (tm y < tm x)
theorem evsL_len (ss : List Spn) : (evsL ss).length = 2 * ss.length := by
  induction ss with
  | nil => rfl
  | cons s ss ih => simp only [evsL, List.flatMap_cons, List.length_append, List.length_cons, List.length_nil] at ih ⊢; omega
theorem rkE_le (ss : List Spn) (tm : Ev → Int) (x : Ev) : rkE ss tm x ≤ 2 * ss.length := by
  rw [← evsL_len]; exact List.countP_le_length
theorem rkE_mono (ss : List Spn) {tm : Ev → Int} {x y : Ev} (h : tm x ≤ tm y) : rkE ss tm x ≤ rkE ss tm y :=
  List.countP_mono_left fun z _ hz => by simp only [decide_eq_true_eq] at hz ⊢; omega
theorem rkE_lt {ss : List Spn} {tm : Ev → Int} {x y : Ev} (hx : x ∈ evsL ss) (h : tm x < tm y) : rkE ss tm x < rkE ss tm y := by
  have key : ∀ l : List Ev, x ∈ l → l.countP (fun z => decide (tm z < tm x)) < l.countP (fun z => decide (tm z < tm y)) := by
    intro l
    induction l with
    | nil => intro h; simp at h
    | cons z l ih =>
      intro hm
      have hmono : l.countP (fun z => decide (tm z < tm x)) ≤ l.countP (fun z => decide (tm z < tm y)) := List.countP_mono_left fun z _ hz => by simp only [decide_eq_true_eq] at hz ⊢; omega
      rw [List.countP_cons, List.countP_cons]
      rcases List.mem_cons.1 hm with rfl | hm
      · have e1 : decide (tm x < tm x) = false := by simp
        have e2 : decide (tm x < tm y) = true := by simp [h]
        rw [e1, e2]; simp; omega
      · have := ih hm
        by_cases e : tm z < tm x
        · have e1 : decide (tm z < tm x) = true := by simp [e]
          have e2 : decide (tm z < tm y) = true := by simp; omega
          rw [e1, e2]; simp; omega
        · have e1 : decide (tm z < tm x) = false := by simp; omega
          rw [e1]; simp; split <;> omega
  exact key _ hx
theorem askB_lt {tm : Ev → Int} {bf : Ev → Ev → Bool} (hbf : ∀ x y, bf x y = decide (tm x < tm y)) {x y : Ev} (h : askB bf x y = true) : tm x < tm y := by
  unfold askB at h
  simp only [Bool.and_eq_true, hbf, decide_eq_true_eq] at h
  exact h.2
theorem askB_self (bf : Ev → Ev → Bool) (x : Ev) : askB bf x x = false := by simp [askB]
theorem wkF_ex {ss : List Spn} (hn : (idsOf ss).Nodup) {tm : Ev → Int} {bf : Ev → Ev → Bool} (hbf : ∀ x y, bf x y = decide (tm x < tm y)) {kid : Int → List Spn} (hk : ∀ k, ∀ z ∈ kid k, z ∈ ss ∧ z.pa = k ∧ z.pa ≠ 0) :
    ∀ (n : Nat) (s : Spn) (lo cur : Ev) (d : Nat), s.id ∈ lev ss d → ss.length - d + rkE ss tm cur ≤ n → ∃ q, wkF bf kid (n + 1) s lo cur = some q := by
  intro n
  induction n with
  | zero =>
    intro s lo cur d hd hb
    have := dep_lt hn (List.ne_nil_of_mem hd)
    omega
  | succ n ih =>
    intro s lo cur d hd hb
    rw [wkF]
    by_cases hA : askB bf lo cur = true
    · rw [if_pos hA]
      cases hC : chooseF bf (kid s.id) lo cur with
      | none => exact ⟨_, rfl⟩
      | some y =>
        obtain ⟨c, v⟩ := y
        obtain ⟨h1, h2, h3⟩ := chooseF_is hC
        simp only at h1 h2 h3 ⊢
        obtain ⟨k1, k2, k3⟩ := hk _ c h1
        have hcd : c.id ∈ lev ss (d + 1) := by
          rw [lev, List.mem_flatMap]
          exact ⟨s.id, hd, mem_kids.2 ⟨c, k1, rfl, k2, k3⟩⟩
        have hdl := dep_lt hn (List.ne_nil_of_mem hcd)
        have hv : rkE ss tm v ≤ rkE ss tm cur := by
          rcases h3 with rfl | h3
          · exact Nat.le_refl _
          · exact rkE_mono ss (Int.le_of_lt (askB_lt hbf h3))
        obtain ⟨q1, hq1⟩ := ih c (if askB bf lo (evOf c false) then evOf c false else lo) v (d + 1) hcd (by omega)
        obtain ⟨q2, hq2⟩ : ∃ q2, wkF bf kid (n + 1) s lo (if askB bf lo (evOf c false) then evOf c false else lo) = some q2 := by
          by_cases hB : askB bf lo (evOf c false) = true
          · rw [if_pos hB]
            have hm : evOf c false ∈ evsL ss := by
              unfold evsL
              rw [List.mem_flatMap]
              exact ⟨c, k1, by simp⟩
            have := rkE_lt (tm := tm) hm (askB_lt hbf h2)
            exact ih s lo _ d hd (by omega)
          · rw [if_neg hB, wkF]
            simp [askB_self]
        rw [hq1, hq2]
        exact ⟨_, rfl⟩
    · rw [if_neg hA]
      exact ⟨_, rfl⟩
end Go.Proofs.YtaaflhmfhnfjhaaGreat
namespace Go.Proofs.YtaaflhmfhnfjhaaGreat
open Go.RowKit Go.Exe
/-! ### the document's walker: choose (without a limit, so that no question is an error) -/
attribute [local irreducible] W AX Run RunD AStep AOp AOpX AStB AStH AStG Fits PCall GCall PostG Post Stop
end Go.Proofs.YtaaflhmfhnfjhaaGreat
namespace Go.Proofs.YtaaflhmfhnfjhaaGreat
open Go.RowKit Go.Exe
/-! ### the document's walker: what its walk does, with the log -/
section
variable {bf : Ev → Ev → Bool} {L : List Spn}
end
end Go.Proofs.YtaaflhmfhnfjhaaGreat
namespace Go.Proofs.YtaaflhmfhnfjhaaGreat
open Go.RowKit Go.Exe
/-! ### the document's walker: walk -/
attribute [local irreducible] W AX Run RunD AStep AOp AOpX AStB AStH AStG Fits PCall GCall PostG Post Stop
end Go.Proofs.YtaaflhmfhnfjhaaGreat
namespace Go.Proofs.YtaaflhmfhnfjhaaGreat
open Go.RowKit Go.Exe
/-! ### the document's path -/
attribute [local irreducible] W AX Run RunD AStep AOp AOpX AStB AStH AStG Fits PCall GCall PostG Post Stop
end Go.Proofs.YtaaflhmfhnfjhaaGreat
namespace Go.Proofs.YtaaflhmfhnfjhaaGreat
open Go.RowKit Go.Exe
/-! ### records in order, each an id of its own; the spans of a story's trace -/
theorem srt_id {l : List Spn} {t : Int} (ht : ∀ s ∈ l, s.tr = t) (hs : l.Pairwise fun a b => a.id < b.id) : l.Pairwise fun a b => a.cmp b < 0 := by
  have : l.Pairwise fun a b => a ∈ l ∧ b ∈ l := List.pairwise_of_forall_mem_list fun a ha b hb => ⟨ha, hb⟩
  refine (hs.and this).imp fun {a b} ⟨hab, ha, hb⟩ => ?_
  have h1 := ht a ha
  have h2 := ht b hb
  have e : cmpI a.id b.id = -1 := by unfold cmpI; rw [if_pos hab]
  have e2 : cmpsG cmpI a.ints b.ints = -1 := by
    have e0 : cmpI a.tr b.tr = 0 := by rw [h1, h2]; simp [cmpI]
    simp [Spn.ints, cmpsG, e, e0]
  simp [Spn.cmp, orL, e2]
theorem compT_fix : ∀ (l : List Spn) (p : Spn), (p :: l).Pairwise (fun a b => a.cmp b < 0) → compT p l = l
  | [], _, _ => rfl
  | x :: r, p, h => by
    have h1 := (List.pairwise_cons.1 h).1 x (by simp)
    have h2 := lwSp.anti p x
    have h3 : (x.cmp p == 0) = false := by simp; omega
    simp only [compT, h3, Bool.false_eq_true, if_false]
    rw [compT_fix r x (List.pairwise_cons.1 h).2]
theorem chosen_all {l : List Spn} {keep : Nat → Bool} (h : ∀ i, i < l.length → keep i = true) : ∀ n, n ≤ l.length → chosenN keep l n = l.take n
  | 0, _ => by simp [chosenN]
  | n + 1, hn => by
    rw [chosenN, chosen_all h n (by omega), h n (by omega), List.take_add_one, List.getElem?_eq_getElem (by omega)]
    simp [List.getD_eq_getElem?_getD, List.getElem?_eq_getElem (show n < l.length by omega)]
theorem nodup_sorted {ss : List Spn} (h : ss.Pairwise fun a b => a.id < b.id) : (idsOf ss).Nodup := by
  rw [idsOf, List.Nodup, List.pairwise_map]
  exact h.imp fun {a b} hab e => by omega
def trF (l : List Spn) (t : Int) : List Spn := l.filter fun x => !(x.tr != t)
theorem mem_trF {l : List Spn} {t : Int} {s : Spn} : s ∈ trF l t ↔ s ∈ l ∧ s.tr = t := by simp [trF]
theorem setS_perm {l ss : List Spn} (hp : l.Perm ss) (h : ss.Pairwise fun a b => a.cmp b < 0) : setS l = ss := by
  have h1 : srtG Spn.cmp l = ss := (lwSp.srt_uni hp.symm (h.imp fun {a b} hab => by have := lwSp.anti a b; omega)).symm
  rw [setS, h1]
  cases ss with
  | nil => rfl
  | cons x r => simp only [compG]; rw [compT_fix r x h]
theorem ofS_perm {l ss : List Spn} {t : Int} (hp : (trF l t).Perm ss) (hs : ss.Pairwise fun a b => a.id < b.id) : ofS l t = ss := by
  have ht : ∀ s ∈ ss, s.tr = t := fun s h => (mem_trF.1 (hp.mem_iff.2 h)).2
  have h1 := setS_perm hp (srt_id ht hs)
  show winS (trF l t) = ss
  unfold winS
  rw [h1, chosen_all (fun i hi => ?_) ss.length (Nat.le_refl _), List.take_length]
  unfold isLast
  rw [List.getElem?_eq_getElem hi]
  by_cases h2 : i + 1 < ss.length
  · rw [List.getElem?_eq_getElem h2]
    have := List.pairwise_iff_getElem.1 hs i (i + 1) hi h2 (by omega)
    have h3 : (ss[i + 1].id == ss[i].id) = false := by simp; omega
    simp [h3]
  · rw [List.getElem?_eq_none (by omega)]
theorem spn_tr (s : Sto) (k : Nat) (t : Tre) : ∀ x ∈ trcS s k t, x.tr = (tidN s k : Nat) := fun x hx => by
  obtain ⟨i, hi⟩ := List.getElem?_of_mem hx
  have hl := (List.getElem?_eq_some_iff.1 hi).1
  rw [trcS_len] at hl
  rw [trcS_at (List.getElem?_eq_getElem hl)] at hi
  cases hi
  rfl
theorem trcS_mem {s : Sto} {k : Nat} {t : Tre} {x : Spn} (hx : x ∈ trcS s k t) : ∃ i c, t.cs[i]? = some c ∧ x = spnS s k t i c := by
  obtain ⟨i, hi⟩ := List.getElem?_of_mem hx
  have hl := (List.getElem?_eq_some_iff.1 hi).1
  rw [trcS_len] at hl
  rw [trcS_at (List.getElem?_eq_getElem hl)] at hi
  cases hi
  exact ⟨i, _, List.getElem?_eq_getElem hl, rfl⟩
theorem trcS_sorted (s : Sto) (k : Nat) (t : Tre) : (trcS s k t).Pairwise fun a b => a.id < b.id := by
  rw [List.pairwise_iff_getElem]
  intro i j hi hj hij
  have h1 : i < t.cs.length := by rw [trcS_len] at hi; exact hi
  have h2 : j < t.cs.length := by rw [trcS_len] at hj; exact hj
  have e1 := trcS_at (s := s) (k := k) (List.getElem?_eq_getElem h1)
  have e2 := trcS_at (s := s) (k := k) (List.getElem?_eq_getElem h2)
  rw [List.getElem?_eq_getElem hi] at e1
  rw [List.getElem?_eq_getElem hj] at e2
  rw [Option.some.inj e1, Option.some.inj e2]
  show ((i + 1 : Nat) : Int) < ((j + 1 : Nat) : Int)
  omega
theorem trcS_lev (s : Sto) (k : Nat) (t : Tre) (h8 : t.cs.length ≤ 8) : ∀ (n i : Nat), i < n → i < t.cs.length → ∃ e, (((i + 1 : Nat) : Int)) ∈ lev (trcS s k t) e
  | 0, i, h, _ => by omega
  | n + 1, i, h, hi => by
    have hc := List.getElem?_eq_getElem hi
    have hx := trcS_at (s := s) (k := k) hc
    have hxm := List.mem_of_getElem? hx
    have hpa : (spnS s k t i t.cs[i]).pa = (paN t.cs[i] i : Nat) := rfl
    have hid : (spnS s k t i t.cs[i]).id = ((i + 1 : Nat) : Int) := rfl
    by_cases hp : t.cs[i].pa % (i + 1) < i
    · obtain ⟨e, he⟩ := trcS_lev s k t h8 n (t.cs[i].pa % (i + 1)) (by omega) (by omega)
      refine ⟨e + 1, ?_⟩
      show _ ∈ (lev (trcS s k t) e).flatMap (kidsF (trcS s k t))
      rw [List.mem_flatMap]
      refine ⟨_, he, mem_kids.2 ⟨_, hxm, hid, ?_, ?_⟩⟩
      · rw [hpa, show paN t.cs[i] i = t.cs[i].pa % (i + 1) + 1 by simp [paN, hp]]
      · rw [hpa, show paN t.cs[i] i = t.cs[i].pa % (i + 1) + 1 by simp [paN, hp]]; omega
    · refine ⟨0, ?_⟩
      show _ ∈ topsF (trcS s k t)
      refine mem_tops.2 ⟨_, hxm, hid, ?_⟩
      rw [hpa]
      by_cases h0 : 0 < i
      · right
        intro hm
        obtain ⟨y, hy, hyi⟩ := List.mem_map.1 hm
        obtain ⟨j, c, hj, rfl⟩ := trcS_mem hy
        have hjl := (List.getElem?_eq_some_iff.1 hj).1
        have e1 : (spnS s k t j c).id = ((j + 1 : Nat) : Int) := rfl
        have e2 : paN t.cs[i] i = 100 := by simp [paN, hp, h0]
        rw [e1, e2] at hyi
        omega
      · left; simp [paN, hp, h0]
def Tre.okB (t : Tre) : Prop := t.slot < 256 ∧ t.start < 256 ∧ ∀ c ∈ t.cs, c.ok
def Sto.okB (s : Sto) : Prop := (∀ t ∈ s.ts, t.okB) ∧ i8 s.o1 ∧ i8 s.o2 ∧ i8 s.o3 ∧ i8 s.o4 ∧ s.wr < 256
theorem Sto.okB.ok {s : Sto} (h : s.okB) (hs : shortS s = true) : s.ok := by
  obtain ⟨h1, h2, h3, h4, h5, h6⟩ := h
  simp only [shortS, shortT, List.take_length, Bool.and_eq_true, List.all_eq_true, decide_eq_true_eq] at hs
  exact ⟨fun t ht => ⟨(h1 t ht).1, (h1 t ht).2.1, (h1 t ht).2.2, hs.1.1 t ht⟩, h2, h3, h4, h5, h6, hs.1.2⟩
end Go.Proofs.YtaaflhmfhnfjhaaGreat
namespace Go.Proofs.YtaaflhmfhnfjhaaGreat
open Go.RowKit Go.Exe
/-! ### a trace, turned: what Walk and the document's path find -/
theorem depN_of {ss : List Spn} (hn : (idsOf ss).Nodup) {x : Int} {e : Nat} (h : x ∈ lev ss e) : ∀ d, e < d → depN ss d x = e
  | d + 1, hd => by
    simp only [depN]
    by_cases h1 : x ∈ lev ss d
    · rw [if_pos h1, lev_one hn d e h1 h]
    · rw [if_neg h1]
      exact depN_of hn h d (by
        have : d ≠ e := fun e' => h1 (e' ▸ h)
        omega)
structure Trn (l L : List Spn) (tr : Int) : Prop where
  perm : L.Perm l
  srt : L.Pairwise fun a b => a.id < b.id
  tr : ∀ s ∈ L, s.tr = tr
  int : ∀ s ∈ L, I64 s.tr ∧ I64 s.id ∧ I64 s.pa ∧ I64 s.clk
  len : L.length ≤ 8
  lev : ∀ s ∈ L, ∃ e, s.id ∈ lev L e
  pos : ∀ s ∈ L, s.id ≠ 0
theorem trF_all {l : List Spn} {t : Int} (h : ∀ s ∈ l, s.tr = t) : trF l t = l := by
  unfold trF
  rw [List.filter_eq_self]
  intro s hs
  simp [h s hs]
theorem trF_none {l : List Spn} {t u : Int} (h : ∀ s ∈ l, s.tr = t) (hu : u ≠ t) : trF l u = [] := by
  unfold trF
  rw [List.filter_eq_nil_iff]
  intro s hs
  have := h s hs
  simp [this, Ne.symm hu]
section
variable {l L : List Spn} {tr : Int} (h : Trn l L tr)
include h
theorem Trn.trl : ∀ s ∈ l, s.tr = tr := fun s hs => h.tr s (h.perm.mem_iff.2 hs)
theorem Trn.intl : ∀ s ∈ l, I64 s.tr ∧ I64 s.id ∧ I64 s.pa ∧ I64 s.clk := fun s hs => h.int s (h.perm.mem_iff.2 hs)
theorem Trn.nd : (idsOf L).Nodup := nodup_sorted h.srt
theorem Trn.ndl : (idsOf l).Nodup := (h.perm.map Spn.id).nodup_iff.1 h.nd
theorem Trn.lenl : l.length ≤ 8 := by rw [← h.perm.length_eq]; exact h.len
theorem Trn.srtId : srtId l = L := (srtId_uni h.ndl h.perm (h.srt.imp fun {a b} hab => by omega)).symm
theorem Trn.of : ofS l tr = L := ofS_perm (by rw [trF_all h.trl]; exact h.perm.symm) h.srt
theorem Trn.of0 {u : Int} (hu : u ≠ tr) : ofS l u = [] := ofS_perm (by rw [trF_none h.trl hu]) List.Pairwise.nil
theorem Trn.ofO : ∀ t, (idsOf (ofS l t)).Nodup ∧ ∀ s ∈ ofS l t, I64 s.id ∧ I64 s.pa := fun t => by
  by_cases e : t = tr
  · subst e
    rw [h.of]
    exact ⟨h.nd, fun s hs => ⟨(h.int s hs).2.1, (h.int s hs).2.2.1⟩⟩
  · rw [h.of0 e]
    exact ⟨by simp [idsOf], fun s hs => by simp at hs⟩
theorem Trn.spId (root : Int) : spId l root = spId L root := by
  cases hl : Go.Proofs.YtaaflhmfhnfjhaaGreat.spId L root with
  | none =>
    unfold Go.Proofs.YtaaflhmfhnfjhaaGreat.spId at hl ⊢
    rw [List.find?_eq_none] at hl ⊢
    exact fun x hx => hl x (h.perm.mem_iff.2 hx)
  | some s =>
    obtain ⟨h1, h2⟩ := spId_mem hl
    cases hl2 : Go.Proofs.YtaaflhmfhnfjhaaGreat.spId l root with
    | none =>
      unfold Go.Proofs.YtaaflhmfhnfjhaaGreat.spId at hl2
      rw [List.find?_eq_none] at hl2
      exact absurd h2 (by have := hl2 s (h.perm.mem_iff.1 h1); simpa using this)
    | some s2 =>
      obtain ⟨h3, h4⟩ := spId_mem hl2
      rw [id_eq h.nd h1 (h.perm.mem_iff.2 h3) (by rw [h2, h4])]
theorem Trn.cyc (root : Int) : (cycN L L.length).contains root = false := by
  rw [Bool.eq_false_iff]
  intro hc
  rw [List.contains_iff_mem] at hc
  unfold cycN at hc
  rw [List.take_length] at hc
  obtain ⟨s, hs, rfl⟩ := List.mem_map.1 hc
  obtain ⟨h1, h2⟩ := List.mem_filter.1 hs
  obtain ⟨e, he⟩ := h.lev s h1
  have h3 := dep_lt h.nd (List.ne_nil_of_mem he)
  rw [depN_of h.nd he _ h3] at h2
  simp at h2
  omega
end
theorem chooseF_congr {bf bf' : Ev → Ev → Bool} {E : Ev → Prop} (hb : ∀ x y, E x → E y → bf x y = bf' x y) {l : List Spn} (hl : ∀ c ∈ l, E (evOf c false) ∧ E (evOf c true)) {lo cur : Ev} (hlo : E lo) (hcur : E cur) : chooseF bf l lo cur = chooseF bf' l lo cur ∧ ∀ y, chooseF bf l lo cur = some y → E y.2 := by
  have ha : ∀ x y, E x → E y → askB bf x y = askB bf' x y := fun x y hx hy => by unfold askB; rw [hb x y hx hy]
  have key : ∀ (l : List Spn) (acc : Option (Spn × Ev)), (∀ c ∈ l, E (evOf c false) ∧ E (evOf c true)) → (∀ y, acc = some y → E y.2) → l.foldl (chStep bf lo cur) acc = l.foldl (chStep bf' lo cur) acc ∧ ∀ y, l.foldl (chStep bf lo cur) acc = some y → E y.2 := by
    intro l
    induction l with
    | nil => exact fun acc _ h => ⟨rfl, h⟩
    | cons k l ih =>
      intro acc hl hacc
      obtain ⟨hf, ht⟩ := hl k (by simp)
      have h1 : chStep bf lo cur acc k = chStep bf' lo cur acc k ∧ ∀ y, chStep bf lo cur acc k = some y → E y.2 := by
        rw [chStep_eq, chStep_eq, ← ha _ _ hf hcur, ← ha _ _ hlo ht, ← ha _ _ hf ht, ← ha _ _ ht hcur]
        by_cases hA : (askB bf (evOf k false) cur && askB bf lo (evOf k true) && askB bf (evOf k false) (evOf k true)) = true
        · rw [if_pos hA, if_pos hA]
          have hv : E (if askB bf (evOf k true) cur = true then evOf k true else cur) := by split <;> assumption
          generalize (if askB bf (evOf k true) cur = true then evOf k true else cur) = v at hv
          cases acc with
          | none => exact ⟨rfl, fun y h => by simp only [Option.some.injEq] at h; rw [← h]; exact hv⟩
          | some y0 =>
            have h0 := hacc y0 rfl
            simp only
            rw [← ha _ _ h0 hv]
            refine ⟨rfl, fun y h => ?_⟩
            split at h
            · simp only [Option.some.injEq] at h; rw [← h]; exact hv
            · exact hacc y h
        · rw [if_neg hA, if_neg hA]
          exact ⟨rfl, hacc⟩
      rw [List.foldl_cons, List.foldl_cons, ← h1.1]
      exact ih _ (fun c hc => hl c (by simp [hc])) h1.2
  exact key l none hl (by simp)
theorem wkF_congr {bf bf' : Ev → Ev → Bool} {kid kid' : Int → List Spn} {E : Ev → Prop} {S : Spn → Prop} (hb : ∀ x y, E x → E y → bf x y = bf' x y) (hk : ∀ s, S s → kid s.id = kid' s.id) (hS : ∀ s, S s → ∀ c ∈ kid s.id, S c ∧ E (evOf c false) ∧ E (evOf c true)) :
    ∀ (n : Nat) (s : Spn) (lo cur : Ev), S s → E lo → E cur → wkF bf kid n s lo cur = wkF bf' kid' n s lo cur := by
  have ha : ∀ x y, E x → E y → askB bf x y = askB bf' x y := fun x y hx hy => by unfold askB; rw [hb x y hx hy]
  intro n
  induction n with
  | zero => intros; rfl
  | succ n ih =>
    intro s lo cur hs hlo hcur
    obtain ⟨h1, h2⟩ := chooseF_congr (l := kid s.id) hb (fun c hc => (hS s hs c hc).2) hlo hcur
    simp only [wkF]
    rw [← ha _ _ hlo hcur, ← hk s hs, ← h1]
    cases hC : chooseF bf (kid s.id) lo cur with
    | none => rfl
    | some y =>
      have hy := h2 y hC
      obtain ⟨hm, hf, ht⟩ := hS s hs y.1 (chooseF_mem hC)
      simp only
      rw [← ha _ _ hlo hf]
      have hbE : E (if askB bf lo (evOf y.1 false) = true then evOf y.1 false else lo) := by split <;> assumption
      rw [ih _ _ _ hm hbE hy, ih _ _ _ hs hlo hbE]
def kidL (L : List Spn) (k : Int) : List Spn := L.filter fun x => x.pa == k && x.kd != 5
/-- The path of the definition. -/
def pthM (L : List Spn) (v : List Of) (root : Int) : Int × List Sg := match spId L root with
  | none => (10, [])
  | some s => (0, ((wkF (bfM L v) (kidL L) 25 s (evOf s false) (evOf s true)).getD []).reverse)
theorem evs_mem {L : List Spn} {s : Spn} (hs : s ∈ L) (e : Bool) : evOf s e ∈ evsL L := by
  unfold evsL
  rw [List.mem_flatMap]
  exact ⟨s, hs, by cases e <;> simp⟩
section
variable {l L : List Spn} {tr : Int} (h : Trn l L tr) (v : List Of)
include h
theorem Trn.kid (k : Int) : kidF (kidM l) k = L.filter fun s => blk s && s.pa == k := by rw [kidF_is, h.srtId]
theorem Trn.kids {s : Spn} (hs : s ∈ L) : kidF (kidM l) s.id = kidL L s.id := by
  rw [h.kid, kidL]
  refine List.filter_congr fun x _ => ?_
  have h0 := h.pos s hs
  show (blk x && x.pa == s.id) = (x.pa == s.id && x.kd != 5)
  by_cases e : x.pa = s.id
  · have e2 : (x.pa == s.id) = true := by rw [beq_iff_eq]; exact e
    have e3 : (x.pa != 0) = true := by rw [bne_iff_ne, e]; exact h0
    rw [e2, blk, e3]; simp
  · have e2 : (x.pa == s.id) = false := by rw [beq_eq_false_iff_ne]; exact e
    rw [e2]; simp
theorem Trn.fuel {s : Spn} (hs : s ∈ L) (lo cur : Ev) : ∃ q, wkF (bfM L v) (kidF (kidM l)) 25 s lo cur = some q := by
  obtain ⟨d, hd⟩ := h.lev s hs
  refine wkF_ex h.nd (tm := timM L v) (fun x y => rfl) ?_ 24 s lo cur d hd ?_
  · intro k z hz
    rw [h.kid] at hz
    obtain ⟨h1, h2⟩ := List.mem_filter.1 hz
    simp only [blk, Bool.and_eq_true, bne_iff_ne, beq_iff_eq] at h2
    exact ⟨h1, h2.2, h2.1.1⟩
  · have := rkE_le L (timM L v) cur
    have := h.len
    omega
theorem Trn.bf (hn : (v.map (·.1)).Nodup) {x y : Ev} (hx : x ∈ evsL L) (hy : y ∈ evsL L) : bfT l v x y = bfM L v x y := by
  have key : ∀ x ∈ evsL L, tmv (tmN l v l.length) x = timM L v x := by
    intro x hx
    obtain ⟨s, hs, hx⟩ := List.mem_flatMap.1 hx
    have hsl := h.perm.mem_iff.1 hs
    have : ∀ e, tmv (tmN l v l.length) (evOf s e) = timM L v (evOf s e) := fun e => by
      rw [tmv_is v h.ndl hsl e, timM_is v h.nd hs e, atV, off_eq hn]
    simp only [List.mem_cons, List.not_mem_nil, or_false] at hx
    rcases hx with rfl | rfl
    · exact this false
    · exact this true
  unfold bfT bfM
  rw [key x hx, key y hy]
theorem Trn.same (hn : (v.map (·.1)).Nodup) (n : Nat) {s : Spn} {lo cur : Ev} (hs : s ∈ L) (hlo : lo ∈ evsL L) (hcur : cur ∈ evsL L) : wkF (bfT l v) (kidF (kidM l)) n s lo cur = wkF (bfM L v) (kidL L) n s lo cur :=
  wkF_congr (E := fun x => x ∈ evsL L) (S := fun s => s ∈ L) (fun x y hx hy => h.bf v hn hx hy) (fun s hs => h.kids hs) (fun s hs c hc => by
    rw [h.kid] at hc
    have h1 := (List.mem_filter.1 hc).1
    exact ⟨h1, evs_mem h1 _, evs_mem h1 _⟩) n s lo cur hs hlo hcur
theorem Trn.sameM (n : Nat) {s : Spn} {lo cur : Ev} (hs : s ∈ L) (hlo : lo ∈ evsL L) (hcur : cur ∈ evsL L) : wkF (bfM L v) (kidF (kidM l)) n s lo cur = wkF (bfM L v) (kidL L) n s lo cur :=
  wkF_congr (E := fun x => x ∈ evsL L) (S := fun s => s ∈ L) (fun x y hx hy => rfl) (fun s hs => h.kids hs) (fun s hs c hc => by
    rw [h.kid] at hc
    have h1 := (List.mem_filter.1 hc).1
    exact ⟨h1, evs_mem h1 _, evs_mem h1 _⟩) n s lo cur hs hlo hcur
theorem Trn.walkIs (hn : (v.map (·.1)).Nodup) (root : Int) : WalkIs l root (bfT l v) (pthM L v root) := by
  unfold WalkIs pthM
  have hl := h.lenl
  rw [if_neg (by omega), h.spId root]
  cases hs : Go.Proofs.YtaaflhmfhnfjhaaGreat.spId L root with
  | none => rfl
  | some s =>
    obtain ⟨h1, h2⟩ := spId_mem hs
    simp only
    rw [h.tr s h1, h.of, h.cyc root, if_neg (by simp)]
    obtain ⟨q, hq⟩ := h.fuel v h1 (evOf s false) (evOf s true)
    have hq2 := hq
    rw [h.sameM v 25 h1 (evs_mem h1 _) (evs_mem h1 _)] at hq2
    have hq3 := hq2
    rw [← h.same v hn 25 h1 (evs_mem h1 _) (evs_mem h1 _)] at hq3
    have hlen := wkF_len hq2
    refine ⟨25, q, hq3, by omega, ?_⟩
    rw [hq2]; rfl
theorem Trn.c13 (c53 : SortC Tryz.prog 53 14) (c71 : SortI Tryz.prog 71) (g85 : GrowC Tryz.prog 85 3 1 8) (hv : ∀ x ∈ v, I64 x.1) (hn : (v.map (·.1)).Nodup) (hc : chkE l v = 0) (root : Int) : PCall Tryz.prog 13 [spsT l, ofsT v, ft (.int .i64 root)] (pthT (pthM L v root)) := by
  refine path_c0 l v root (fun s hs => (h.intl s hs).2.2.2) hv (fun s hs => ⟨(h.intl s hs).1, (h.intl s hs).2.1⟩) _ (fun _ => ?_) (fun hne => absurd hc hne)
  exact walkTop_c c53 c71 g85 l root 38 _ (bfT l v) (path1_c _) h.ndl (fun s hs => ⟨(h.intl s hs).2.1, (h.intl s hs).2.2.1⟩) (fun s hs => (h.intl s hs).1) h.ofO _ (h.walkIs v hn root)
end
end Go.Proofs.YtaaflhmfhnfjhaaGreat
namespace Go.Proofs.YtaaflhmfhnfjhaaGreat
open Go.RowKit Go.Exe
/-! ### the turned spans of a story -/
theorem turnT_is {s : Sto} {t : Tre} (h : turnT s = some t) : shortS s = true ∧ s.ts[0]? = some t ∧ 0 < t.cs.length := by
  unfold turnT at h
  split at h
  · split at h
    · split at h
      · cases h
      · rename_i h1 _ t2 h2 h3
        cases h
        exact ⟨h1, h2, by omega⟩
    · cases h
  · cases h
theorem rotL_perm (l : List Spn) (u : Nat) : l.Perm (rotL l u) := by
  unfold rotL
  have h := List.perm_append_comm (l₁ := l.take (u % l.length)) (l₂ := l.drop (u % l.length))
  rw [List.take_append_drop] at h
  exact h
theorem story_trn {s : Sto} (hs : s.ok) {t : Tre} (ht : turnT s = some t) (u : Nat) : Trn (rotL (trcS s 0 t) u) (trcS s 0 t) ((tidN s 0 : Nat) : Int) := by
  obtain ⟨h1, h2, h3⟩ := turnT_is ht
  have hkl := (List.getElem?_eq_some_iff.1 h2).1
  have h8 := (hs.1 t (List.mem_of_getElem? h2)).2.2.2
  refine ⟨rotL_perm _ _, trcS_sorted s 0 t, spn_tr s 0 t, fun x hx => ?_, by rw [trcS_len]; exact h8, fun x hx => ?_, fun x hx => ?_⟩
  · obtain ⟨i, c, hi, rfl⟩ := trcS_mem hx
    have hil := (List.getElem?_eq_some_iff.1 hi).1
    have h1 := tidN_lt hs 0 hkl
    have h2 : paN c i ≤ 100 := by
      have := Nat.mod_lt c.pa (show 0 < i + 1 by omega)
      unfold paN; split <;> (try split) <;> omega
    have h4 : c.cl % 4 < 4 := Nat.mod_lt _ (by omega)
    refine ⟨?_, ?_, ?_, ?_⟩
    · show I64 ((tidN s 0 : Nat) : Int); unfold I64; omega
    · show I64 ((i + 1 : Nat) : Int); unfold I64; omega
    · show I64 ((paN c i : Nat) : Int); unfold I64; omega
    · show I64 ((1 + c.cl % 4 : Nat) : Int); unfold I64; omega
  · obtain ⟨i, c, hi, rfl⟩ := trcS_mem hx
    exact trcS_lev s 0 t h8 (i + 1) i (by omega) (List.getElem?_eq_some_iff.1 hi).1
  · obtain ⟨i, c, hi, rfl⟩ := trcS_mem hx
    show ((i + 1 : Nat) : Int) ≠ 0
    omega
theorem offT_4 (s : Sto) : offT s 4 = [(1, offC s 1), (2, offC s 2), (3, offC s 3), (4, offC s 4)] := rfl
theorem offT_I (s : Sto) : ∀ x ∈ offT s 4, I64 x.1 := fun x hx => by
  rw [offT_4] at hx
  simp only [List.mem_cons, List.not_mem_nil, or_false] at hx
  unfold I64
  rcases hx with rfl | rfl | rfl | rfl <;> simp
theorem offT_nd (s : Sto) : ((offT s 4).map (·.1)).Nodup := by rw [offT_4]; simp
theorem story_chk {s : Sto} {t : Tre} (ht : turnT s = some t) (u : Nat) : chkE (rotL (trcS s 0 t) u) (offT s 4) = 0 := by
  have h1 : ordN (offT s 4) (offT s 4).length = false := by rw [offT_4]; simp [ordN, leAt]
  have h2 : (offT s 4).any rngB = false := by
    rw [List.any_eq_false]
    intro x hx
    rw [offT_4] at hx
    have b1 := offC_b s 1
    have b2 := offC_b s 2
    have b3 := offC_b s 3
    have b4 := offC_b s 4
    simp only [List.mem_cons, List.not_mem_nil, or_false] at hx
    rcases hx with rfl | rfl | rfl | rfl <;> (simp [rngB]; omega)
  have h3 : (rotL (trcS s 0 t) u).any (gapB (offT s 4)) = false := by
    rw [List.any_eq_false]
    intro x hx
    obtain ⟨i, c, hi, rfl⟩ := trcS_mem ((rotL_perm _ _).mem_iff.2 hx)
    rw [gapB_any]
    have h4 : c.cl % 4 < 4 := Nat.mod_lt _ (by omega)
    have : ∀ k : Nat, k < 4 → ((offT s 4).any fun y => y.1 == ((1 + k : Nat) : Int)) = true := by
      intro k hk
      rw [offT_4]
      rcases k with _ | _ | _ | _ | k
      · simp
      · simp
      · simp
      · simp
      · omega
    have h5 := this (c.cl % 4) h4
    show ¬ (!((offT s 4).any fun y => y.1 == ((1 + c.cl % 4 : Nat) : Int))) = true
    rw [h5]; simp
  unfold chkE
  rw [h1, h2, h3]; rfl
/-! ### the example -/
theorem ex_trn : Trn exS exS 1 := by
  refine ⟨List.Perm.refl _, by simp [exS], by simp [exS], ?_, by simp [exS], ?_, by simp [exS]⟩
  · simp [exS, I64]
  · have h0 : (1 : Int) ∈ lev exS 0 := by decide
    have h1 : (2 : Int) ∈ lev exS 1 := by decide
    have h2 : (3 : Int) ∈ lev exS 1 := by decide
    intro s hs
    simp only [exS, List.mem_cons, List.not_mem_nil, or_false] at hs
    rcases hs with rfl | rfl | rfl
    · exact ⟨0, h0⟩
    · exact ⟨1, h1⟩
    · exact ⟨1, h2⟩
def exV : List Of := [(1, 0), (2, 0)]
def exW : List Of := [(1, 0), (2, 20)]
def exP : List Sg := [⟨(1, 1), ⟨1, 1, false⟩, ⟨1, 2, false⟩⟩, ⟨(1, 2), ⟨1, 2, false⟩, ⟨1, 3, false⟩⟩, ⟨(1, 3), ⟨1, 3, false⟩, ⟨1, 3, true⟩⟩, ⟨(1, 1), ⟨1, 3, true⟩, ⟨1, 1, true⟩⟩]
theorem ex_chkV : chkE exS exV = 0 := by decide
theorem ex_chkW : chkE exS exW = 0 := by decide
theorem ex_pV : pthM exS exV 1 = (0, exP) := by kernel_rfl
def exQ : List Sg := [⟨(1, 1), ⟨1, 1, false⟩, ⟨1, 3, false⟩⟩, ⟨(1, 3), ⟨1, 3, false⟩, ⟨1, 3, true⟩⟩, ⟨(1, 1), ⟨1, 3, true⟩, ⟨1, 1, true⟩⟩]
theorem ex_pW : pthM exS exW 1 = (0, exQ) := by kernel_rfl
theorem ex_len : lenS exS exV exP = some [10, 20, 60, 10] := by kernel_rfl
end Go.Proofs.YtaaflhmfhnfjhaaGreat
namespace Go.Proofs.YtaaflhmfhnfjhaaGreat
open Go.RowKit Go.Exe
/-! ### known: the examples of the document -/
theorem ex_ex : exF exP [10, 20, 60, 10] = [(1, 20), (2, 20), (3, 60)] := by
  have h : exN exP [10, 20, 60, 10] exP.length = [(1, 20), (2, 20), (3, 60)] := by kernel_rfl
  have h2 : srtI [1, 2, 3] = [1, 2, 3] := List.mergeSort_of_pairwise (by decide)
  unfold exF
  rw [h]
  show (srtI [1, 2, 3]).map _ = _
  rw [h2]; rfl
theorem fields75 : (Tryz.prog.fieldsOf 75).toList = [{ name := "Id", type := 3, offset := 0, embedded := false, tag := "", pkgPath := "", byteOffset := 0 }, { name := "Time", type := 3, offset := 1, embedded := false, tag := "", pkgPath := "", byteOffset := 8 }] := by kernel_rfl
theorem st75 : Tryz.prog.underlying 75 = some (.struct (Tryz.prog.fieldsOf 75)) := by kernel_rfl
theorem si75 : Tryz.prog.stoodInHeld 75 = false := by kernel_rfl
theorem eqG75 : Tryz.prog.eqGuardType Tryz.prog.depth 75 = false := by kernel_rfl
theorem eqG50 : Tryz.prog.eqGuardType Tryz.prog.depth 50 = false := by kernel_rfl
theorem eqShN (n : Nat) (a b c d : Int) (w : World) : (Op.equalIn (n + 2) 75 (.agg #[.int .i64 a, .int .i64 b]) (.agg #[.int .i64 c, .int .i64 d])).run Tryz.prog w = .ok ((a == c) && (b == d)) w := by
  rw [run_equalIn_struct w (n + 1) 75 _ _ st75 si75, fields75]
  simp [Op.eqFields, Sem.run_bind, run_equalIn_int _ _ _ _ _ _ _ tU3, part, agg3]
  by_cases h1 : a = c <;> by_cases h2 : b = d <;> simp [h1, h2]
theorem eqSh (a b c d : Int) (w : World) : (Op.equal 75 (.agg #[.int .i64 a, .int .i64 b]) (.agg #[.int .i64 c, .int .i64 d])).run Tryz.prog w = .ok ((a == c) && (b == d)) w := by
  unfold Op.equal Op.maxDepth
  exact eqShN 9998 a b c d w
theorem eqRf (a b c d : Int) (w : World) : (Op.equal 50 (.agg #[.int .i64 a, .int .i64 b]) (.agg #[.int .i64 c, .int .i64 d])).run Tryz.prog w = .ok ((a == c) && (b == d)) w := by
  unfold Op.equal Op.maxDepth
  exact eqRefN 9998 a b c d w
attribute [local irreducible] W AX Run RunD AStep AOp AOpX AStB AStH AStG Fits PCall GCall PostG Post Stop
theorem known_c (c53 : SortC Tryz.prog 53 14) (c71 : SortI Tryz.prog 71) (g85 : GrowC Tryz.prog 85 3 1 8) : PCall Tryz.prog 11 [] (ft (.bool true)) := by
  have hvV : ∀ x ∈ exV, I64 x.1 := by simp [exV, I64]
  have hvW : ∀ x ∈ exW, I64 x.1 := by simp [exW, I64]
  have hnV : (exV.map (·.1)).Nodup := by decide
  have hnW : (exW.map (·.1)).Nodup := by decide
  have c31 := example_c
  have cV := ex_trn.c13 exV c53 c71 g85 hvV hnV ex_chkV 1
  have cW := ex_trn.c13 exW c53 c71 g85 hvW hnW ex_chkW 1
  rw [ex_pV] at cV
  rw [ex_pW] at cW
  have c24 := lengths_c exS exV exP (by simp [exS, I64]) hvV
  have e24 : lenT exS exV exP = .t [(false, [.im (.sl 3 ([10, 20, 60, 10].map iA))]), (false, [fl (.int .i64 0)])] := by
    unfold lenT
    rw [if_neg (by rw [ex_chkV]; simp), ex_len]
  rw [e24] at c24
  have cX := excl_c c71 exS exV 1 exP [10, 20, 60, 10] rfl (by simp [exP, I64]) cV c24
  rw [ex_ex] at cX
  have c15 := same_c exP exP
  rw [decide_eq_true rfl] at c15
  clear c24 e24 hvV hvW hnV hnW c53 c71 g85
  generalize exS = s at *
  simp only [pthT, exT, exV, exW, exP, exQ, ofA, sgA, evA, refA, iA, List.map, List.cons_append, List.nil_append] at cV cW cX c15
  have e3 : (((3 : Nat) : Int) == 3) = true := by decide
  have hG5 := eqG50
  have hG7 := eqG75
  have hE5 : ∀ w, (Op.equal 50 (.agg #[.int .i64 1, .int .i64 3]) (.agg #[.int .i64 1, .int .i64 3])).run Tryz.prog w = .ok true w := fun w => eqRf 1 3 1 3 w
  have hE7 : ∀ w, (Op.equal 75 (.agg #[.int .i64 1, .int .i64 20]) (.agg #[.int .i64 1, .int .i64 20])).run Tryz.prog w = .ok true w := fun w => eqSh 1 20 1 20 w
  have i1 : Int.toNat 1 = 1 := rfl
  have i2 : Int.toNat 2 = 2 := rfl
  have i0 : Int.toNat 0 = 0 := rfl
  refine PCall.intro (nt := 112) (rs := [.tmp 0]) Tryz.func11 rfl ⟨by kernel_rfl, by kernel_rfl, by kernel_rfl⟩ (by simp) ?_
  rintro ⟨P, w0, ok0, may, np, pblk⟩ rfl rfl
  repeat' (first | refine W.seq fun K hK => ?_ | refine W.block ?_ | ((first | refine wR ?_ | refine wD ?_ | refine W.skip ?_ | refine W.exit ?_ | refine W.ret (Post.ret ?_) | refine aP ?_ | refine aF ?_ | refine aE ?_); simp only [go_sem, reduceCtorEq, e3, i0, i1, i2, List.getElem?_cons_succ, List.getElem?_cons_zero, Option.map_some]) | refine wT ?_ | refine wF ?_ | refine wC (fun h => ?_) (fun h => ?_) | refine iK ?_ | refine aI2 ?_ | (refine hK _ ?_; clear hK K) | clear hK K)
  refine aE (hg := hG5) (heq := hE5) ?_
  simp only [go_sem, reduceCtorEq, e3, i0, i1, i2, List.getElem?_cons_succ, List.getElem?_cons_zero, Option.map_some]
  repeat' (first | refine W.seq fun K hK => ?_ | refine W.block ?_ | ((first | refine wR ?_ | refine wD ?_ | refine W.skip ?_ | refine W.exit ?_ | refine W.ret (Post.ret ?_) | refine aP ?_ | refine aF ?_ | refine aE ?_); simp only [go_sem, reduceCtorEq, e3, i0, i1, i2, List.getElem?_cons_succ, List.getElem?_cons_zero, Option.map_some]) | refine wT ?_ | refine wF ?_ | refine wC (fun h => ?_) (fun h => ?_) | refine iK ?_ | refine aI2 ?_ | (refine hK _ ?_; clear hK K) | clear hK K)
  refine aE (hg := hG7) (heq := hE7) ?_
  simp only [go_sem, reduceCtorEq, e3, i0, i1, i2, List.getElem?_cons_succ, List.getElem?_cons_zero, Option.map_some]
  repeat' (first | refine W.seq fun K hK => ?_ | refine W.block ?_ | ((first | refine wR ?_ | refine wD ?_ | refine W.skip ?_ | refine W.exit ?_ | refine W.ret (Post.ret ?_) | refine aP ?_ | refine aF ?_ | refine aE ?_); simp only [go_sem, reduceCtorEq, e3, i0, i1, i2, List.getElem?_cons_succ, List.getElem?_cons_zero, Option.map_some]) | refine wT ?_ | refine wF ?_ | refine wC (fun h => ?_) (fun h => ?_) | refine iK ?_ | refine aI2 ?_ | (refine hK _ ?_; clear hK K) | clear hK K)
end Go.Proofs.YtaaflhmfhnfjhaaGreat
namespace Go.Proofs.YtaaflhmfhnfjhaaGreat
open Go.RowKit Go.Exe
/-! ### the walk of CriticalPaths -/
attribute [local irreducible] W AX Run RunD AStep AOp AOpX AStB AStH AStG Fits PCall GCall PostG Post Stop
theorem turned_c0 (s : Sto) (hs : shortS s = false) (u : Nat) : PCall Tryz.prog 12 [stoT s, ft (.int .u8 (u : Nat))] (turnR none) := by
  have c32 := short_c s
  rw [hs] at c32
  refine turnErr ?_
  simp only [stoT, stoA, List.map] at c32 ⊢
  refine PCall.intro (nt := 45) (rs := [.tmp 4, .tmp 5, .tmp 6]) Tryz.func12 rfl ⟨by kernel_rfl, by kernel_rfl, by kernel_rfl⟩ (by simp) ?_
  rintro ⟨P, w0, ok0, may, np, pblk⟩ rfl rfl
  repeat' (first | refine W.seq fun K hK => ?_ | refine W.block ?_ | ((first | refine wR ?_ | refine wD ?_ | refine W.skip ?_ | refine W.exit ?_ | refine W.ret (Post.ret ?_) | refine aP ?_ | refine aF ?_); simp only [go_sem, reduceCtorEq]) | refine wT ?_ | refine wF ?_ | refine wC (fun h => ?_) (fun h => ?_) | refine iK ?_ | refine aI2 ?_ | (refine hK _ ?_; clear hK K) | clear hK K)
end Go.Proofs.YtaaflhmfhnfjhaaGreat
