import Derived.Test.YthlimkmjobpjoaaGreatM4
import Derived.Test.YthlimkmjobpjoaaGreatM3
import Derived.Test.YthlimkmjobpjoaaGreatM2
import Derived.Test.YthlimkmjobpjoaaGreatM5
set_option linter.unusedVariables false
set_option linter.unusedSimpArgs false
set_option maxHeartbeats 8000000
set_option maxRecDepth 100000
namespace Go.Proofs.YthlimkmjobpjoaaGreat
open Go.RowKit Go.Exe
/-! ### stories -/
structure Cal where
  pa : Nat
  cl : Nat
  ki : Nat
  se : Nat
  ve : Nat
  op : Nat
  wa : Nat
  lo : Nat
  li : Nat
  ta : Nat
  fa : Bool
structure Tre where
  slot : Nat
  start : Nat
  cs : List Cal
structure Sto where
  ts : List Tre
  o1 : Int
  o2 : Int
  o3 : Int
  o4 : Int
  sy : List (List AV)
  wr : Nat
def Cal.ok (c : Cal) : Prop := c.pa < 256 ∧ c.cl < 256 ∧ c.ki < 256 ∧ c.se < 256 ∧ c.ve < 256 ∧ c.op < 256 ∧ c.wa < 256 ∧ c.lo < 256 ∧ c.li < 256 ∧ c.ta < 256
def i8 (n : Int) : Prop := -128 ≤ n ∧ n ≤ 127
def Tre.ok (t : Tre) : Prop := t.slot < 256 ∧ t.start < 256 ∧ (∀ c ∈ t.cs, c.ok) ∧ t.cs.length ≤ 8
def Sto.ok (s : Sto) : Prop := (∀ t ∈ s.ts, t.ok) ∧ i8 s.o1 ∧ i8 s.o2 ∧ i8 s.o3 ∧ i8 s.o4 ∧ s.wr < 256 ∧ s.ts.length ≤ 3
/-- The first m trees have at most 8 calls. -/
def shortT (s : Sto) (m : Nat) : Bool := (s.ts.take m).all fun t => decide (t.cs.length ≤ 8)
def shortS (s : Sto) : Bool := shortT s s.ts.length && decide (s.ts.length ≤ 3) && decide (s.sy.length ≤ 6)
def offC (s : Sto) (clk : Nat) : Int := Int.tmod (if clk = 1 then s.o1 else if clk = 2 then s.o2 else if clk = 3 then s.o3 else s.o4) 21
/-! ### remainders of bytes -/
theorem tm (a b : Nat) : Int.tmod (a : Int) (b : Int) = ((a % b : Nat) : Int) := by
  rw [Int.tmod_eq_emod_of_nonneg (by omega)]; rfl
theorem td (a b : Nat) : Int.tdiv (a : Int) (b : Int) = ((a / b : Nat) : Int) := rfl
attribute [local irreducible] W AX Run RunD AStep AOp AOpX AStB AStH AStG Fits PCall GCall PostG Post Stop
end Go.Proofs.YthlimkmjobpjoaaGreat
namespace Go.Proofs.YthlimkmjobpjoaaGreat
open Go.RowKit Go.Exe
attribute [local irreducible] W AX Run RunD AStep AOp AOpX AStB AStH AStG Fits PCall GCall PostG Post Stop
end Go.Proofs.YthlimkmjobpjoaaGreat
namespace Go.Proofs.YthlimkmjobpjoaaGreat
open Go.RowKit Go.Exe
attribute [local irreducible] W AX Run RunD AStep AOp AOpX AStB AStH AStG Fits PCall GCall PostG Post Stop
end Go.Proofs.YthlimkmjobpjoaaGreat
namespace Go.Proofs.YthlimkmjobpjoaaGreat
open Go.RowKit Go.Exe
attribute [local irreducible] W AX Run RunD AStep AOp AOpX AStB AStH AStG Fits PCall GCall PostG Post Stop
end Go.Proofs.YthlimkmjobpjoaaGreat
namespace Go.Proofs.YthlimkmjobpjoaaGreat
open Go.RowKit Go.Exe
attribute [local irreducible] W AX Run RunD AStep AOp AOpX AStB AStH AStG Fits PCall GCall PostG Post Stop
end Go.Proofs.YthlimkmjobpjoaaGreat
namespace Go.Proofs.YthlimkmjobpjoaaGreat
open Go.RowKit Go.Exe
/-! ### records in order, each an id of its own; the spans of a story's trace -/
theorem srt_id {l : List Spn} {t : Int} (ht : ∀ s ∈ l, s.tr = t) (hs : l.Pairwise fun a b => a.id < b.id) : l.Pairwise fun a b => a.cmp b < 0 := by
  have : l.Pairwise fun a b => a ∈ l ∧ b ∈ l := List.pairwise_of_forall_mem_list fun a ha b hb => ⟨ha, hb⟩
  refine (hs.and this).imp fun {a b} ⟨hab, ha, hb⟩ => ?_
  have h1 := ht a ha
  have h2 := ht b hb
  have e : cmpI a.id b.id = -1 := by unfold cmpI; rw [if_pos hab]
  have e2 : cmpsG cmpI a.ints b.ints = -1 := by
    have e0 : cmpI a.tr b.tr = 0 := by rw [h1, h2]; simp [cmpI]
    simp [Spn.ints, cmpsG, e, e0]
  simp [Spn.cmp, orL, e2]
theorem compT_fix : ∀ (l : List Spn) (p : Spn), (p :: l).Pairwise (fun a b => a.cmp b < 0) → compT p l = l
  | [], _, _ => rfl
  | x :: r, p, h => by
    have h1 := (List.pairwise_cons.1 h).1 x (by simp)
    have h2 := lwSp.anti p x
    have h3 : (x.cmp p == 0) = false := by simp; omega
    simp only [compT, h3, Bool.false_eq_true, if_false]
    rw [compT_fix r x (List.pairwise_cons.1 h).2]
theorem chosen_all {l : List Spn} {keep : Nat → Bool} (h : ∀ i, i < l.length → keep i = true) : ∀ n, n ≤ l.length → chosenN keep l n = l.take n
  | 0, _ => by simp [chosenN]
  | n + 1, hn => by
    rw [chosenN, chosen_all h n (by omega), h n (by omega), List.take_add_one, List.getElem?_eq_getElem (by omega)]
    simp [List.getD_eq_getElem?_getD, List.getElem?_eq_getElem (show n < l.length by omega)]
theorem nodup_sorted {ss : List Spn} (h : ss.Pairwise fun a b => a.id < b.id) : (idsOf ss).Nodup := by
  rw [idsOf, List.Nodup, List.pairwise_map]
  exact h.imp fun {a b} hab e => by omega
def trF (l : List Spn) (t : Int) : List Spn := l.filter fun x => !(x.tr != t)
theorem mem_trF {l : List Spn} {t : Int} {s : Spn} : s ∈ trF l t ↔ s ∈ l ∧ s.tr = t := by simp [trF]
theorem setS_perm {l ss : List Spn} (hp : l.Perm ss) (h : ss.Pairwise fun a b => a.cmp b < 0) : setS l = ss := by
  have h1 : srtG Spn.cmp l = ss := (lwSp.srt_uni hp.symm (h.imp fun {a b} hab => by have := lwSp.anti a b; omega)).symm
  rw [setS, h1]
  cases ss with
  | nil => rfl
  | cons x r => simp only [compG]; rw [compT_fix r x h]
theorem ofS_perm {l ss : List Spn} {t : Int} (hp : (trF l t).Perm ss) (hs : ss.Pairwise fun a b => a.id < b.id) : ofS l t = ss := by
  have ht : ∀ s ∈ ss, s.tr = t := fun s h => (mem_trF.1 (hp.mem_iff.2 h)).2
  have h1 := setS_perm hp (srt_id ht hs)
  show winS (trF l t) = ss
  unfold winS
  rw [h1, chosen_all (fun i hi => ?_) ss.length (Nat.le_refl _), List.take_length]
  unfold isLast
  rw [List.getElem?_eq_getElem hi]
  by_cases h2 : i + 1 < ss.length
  · rw [List.getElem?_eq_getElem h2]
    have := List.pairwise_iff_getElem.1 hs i (i + 1) hi h2 (by omega)
    have h3 : (ss[i + 1].id == ss[i].id) = false := by simp; omega
    simp [h3]
  · rw [List.getElem?_eq_none (by omega)]
def Tre.okB (t : Tre) : Prop := t.slot < 256 ∧ t.start < 256 ∧ ∀ c ∈ t.cs, c.ok
def Sto.okB (s : Sto) : Prop := (∀ t ∈ s.ts, t.okB) ∧ i8 s.o1 ∧ i8 s.o2 ∧ i8 s.o3 ∧ i8 s.o4 ∧ s.wr < 256
theorem Sto.okB.ok {s : Sto} (h : s.okB) (hs : shortS s = true) : s.ok := by
  obtain ⟨h1, h2, h3, h4, h5, h6⟩ := h
  simp only [shortS, shortT, List.take_length, Bool.and_eq_true, List.all_eq_true, decide_eq_true_eq] at hs
  exact ⟨fun t ht => ⟨(h1 t ht).1, (h1 t ht).2.1, (h1 t ht).2.2, hs.1.1 t ht⟩, h2, h3, h4, h5, h6, hs.1.2⟩
end Go.Proofs.YthlimkmjobpjoaaGreat
namespace Go.Proofs.YthlimkmjobpjoaaGreat
open Go.RowKit Go.Exe
/-! ### a trace, turned: what Walk finds -/
def offI (v : List Of) (c : Int) : Int := match v.find? (fun x => x.1 == c) with
  | some x => x.2
  | none => 0
theorem getO_put (m : List Of) (x : Of) (k : Int) : getO (putO m x) k = if x.1 = k then some x.2 else getO m k := by
  induction m with
  | nil => simp [putO, getO]
  | cons y r ih =>
    simp only [putO, getO]
    by_cases h : y.1 = x.1
    · rw [if_pos h]
      simp only [getO]
      by_cases h2 : x.1 = k
      · simp [h2]
      · have : ¬ y.1 = k := by rw [h]; exact h2
        simp [h2, this]
    · rw [if_neg h]
      simp only [getO, ih]
      by_cases h2 : y.1 = k
      · have : ¬ x.1 = k := fun e => h (by rw [h2, e])
        simp [h2, this]
      · simp [h2]
def timM (L : List Spn) (v : List Of) (x : Ev) : Int := match L.findIdx? (fun s => s.id == x.id) with
  | some i => match L[i]? with
    | some s => IntKind.i64.wrap (atS s x.en - offI v s.clk)
    | none => 0
  | none => 0
def bfM (L : List Spn) (v : List Of) (x y : Ev) : Bool := decide (timM L v x < timM L v y)
theorem off_eq {v : List Of} (hn : (v.map (·.1)).Nodup) (k : Int) : offK v k = offI v k := by
  have out : ∀ (v m : List Of), k ∉ v.map (·.1) → getO (v.foldl putO m) k = getO m k := by
    intro v
    induction v with
    | nil => exact fun m _ => rfl
    | cons x v ih =>
      intro m h
      simp only [List.map_cons, List.mem_cons, not_or] at h
      rw [List.foldl_cons, ih _ h.2, getO_put, if_neg (fun e => h.1 e.symm)]
  have key : ∀ (v m : List Of), (v.map (·.1)).Nodup → getO m k = none → (getO (v.foldl putO m) k).getD 0 = offI v k := by
    intro v
    induction v with
    | nil => intro m _ h; simp [h, offI]
    | cons x v ih =>
      intro m hn h
      simp only [List.map_cons, List.nodup_cons] at hn
      rw [List.foldl_cons]
      by_cases e : x.1 = k
      · rw [out v _ (by rw [← e]; exact hn.1), getO_put, if_pos e]
        simp [offI, e]
      · rw [ih _ hn.2 (by rw [getO_put, if_neg e]; exact h)]
        have e2 : (x.1 == k) = false := by rw [beq_eq_false_iff_ne]; exact e
        simp [offI, List.find?_cons, e2]
  exact key v [] hn rfl
theorem timM_is {L : List Spn} (v : List Of) (hn : (idsOf L).Nodup) {s : Spn} (hs : s ∈ L) (e : Bool) : timM L v (evOf s e) = IntKind.i64.wrap (atS s e - offI v s.clk) := by
  cases hf : L.findIdx? (fun x => x.id == s.id) with
  | none =>
    rw [List.findIdx?_eq_none_iff] at hf
    have := hf s hs
    simp at this
  | some i =>
    obtain ⟨hil, hp, _⟩ := List.findIdx?_eq_some_iff_getElem.1 hf
    have hi : L[i]? = some L[i] := List.getElem?_eq_getElem hil
    have he : L[i] = s := id_eq hn (List.getElem_mem hil) hs (by simpa using hp)
    rw [he] at hi
    unfold timM evOf
    simp only [hf, hi]
theorem depN_of {ss : List Spn} (hn : (idsOf ss).Nodup) {x : Int} {e : Nat} (h : x ∈ lev ss e) : ∀ d, e < d → depN ss d x = e
  | d + 1, hd => by
    simp only [depN]
    by_cases h1 : x ∈ lev ss d
    · rw [if_pos h1, lev_one hn d e h1 h]
    · rw [if_neg h1]
      exact depN_of hn h d (by
        have : d ≠ e := fun e' => h1 (e' ▸ h)
        omega)
structure Trn (l L : List Spn) (tr : Int) : Prop where
  perm : L.Perm l
  srt : L.Pairwise fun a b => a.id < b.id
  tr : ∀ s ∈ L, s.tr = tr
  int : ∀ s ∈ L, I64 s.tr ∧ I64 s.id ∧ I64 s.pa ∧ I64 s.clk
  len : L.length ≤ 8
  lev : ∀ s ∈ L, ∃ e, s.id ∈ lev L e
  pos : ∀ s ∈ L, s.id ≠ 0
theorem trF_all {l : List Spn} {t : Int} (h : ∀ s ∈ l, s.tr = t) : trF l t = l := by
  unfold trF
  rw [List.filter_eq_self]
  intro s hs
  simp [h s hs]
theorem trF_none {l : List Spn} {t u : Int} (h : ∀ s ∈ l, s.tr = t) (hu : u ≠ t) : trF l u = [] := by
  unfold trF
  rw [List.filter_eq_nil_iff]
  intro s hs
  have := h s hs
  simp [this, Ne.symm hu]
section
variable {l L : List Spn} {tr : Int} (h : Trn l L tr)
include h
theorem Trn.trl : ∀ s ∈ l, s.tr = tr := fun s hs => h.tr s (h.perm.mem_iff.2 hs)
theorem Trn.intl : ∀ s ∈ l, I64 s.tr ∧ I64 s.id ∧ I64 s.pa ∧ I64 s.clk := fun s hs => h.int s (h.perm.mem_iff.2 hs)
theorem Trn.nd : (idsOf L).Nodup := nodup_sorted h.srt
theorem Trn.ndl : (idsOf l).Nodup := (h.perm.map Spn.id).nodup_iff.1 h.nd
theorem Trn.lenl : l.length ≤ 8 := by rw [← h.perm.length_eq]; exact h.len
theorem Trn.srtId : srtId l = L := (srtId_uni h.ndl h.perm (h.srt.imp fun {a b} hab => by omega)).symm
theorem Trn.of : ofS l tr = L := ofS_perm (by rw [trF_all h.trl]; exact h.perm.symm) h.srt
theorem Trn.of0 {u : Int} (hu : u ≠ tr) : ofS l u = [] := ofS_perm (by rw [trF_none h.trl hu]) List.Pairwise.nil
theorem Trn.ofO : ∀ t, (idsOf (ofS l t)).Nodup ∧ ∀ s ∈ ofS l t, I64 s.id ∧ I64 s.pa := fun t => by
  by_cases e : t = tr
  · subst e
    rw [h.of]
    exact ⟨h.nd, fun s hs => ⟨(h.int s hs).2.1, (h.int s hs).2.2.1⟩⟩
  · rw [h.of0 e]
    exact ⟨by simp [idsOf], fun s hs => by simp at hs⟩
theorem Trn.spId (root : Int) : spId l root = spId L root := by
  cases hl : Go.Proofs.YthlimkmjobpjoaaGreat.spId L root with
  | none =>
    unfold Go.Proofs.YthlimkmjobpjoaaGreat.spId at hl ⊢
    rw [List.find?_eq_none] at hl ⊢
    exact fun x hx => hl x (h.perm.mem_iff.2 hx)
  | some s =>
    obtain ⟨h1, h2⟩ := spId_mem hl
    cases hl2 : Go.Proofs.YthlimkmjobpjoaaGreat.spId l root with
    | none =>
      unfold Go.Proofs.YthlimkmjobpjoaaGreat.spId at hl2
      rw [List.find?_eq_none] at hl2
      exact absurd h2 (by have := hl2 s (h.perm.mem_iff.1 h1); simpa using this)
    | some s2 =>
      obtain ⟨h3, h4⟩ := spId_mem hl2
      rw [id_eq h.nd h1 (h.perm.mem_iff.2 h3) (by rw [h2, h4])]
theorem Trn.cyc (root : Int) : (cycN L L.length).contains root = false := by
  rw [Bool.eq_false_iff]
  intro hc
  rw [List.contains_iff_mem] at hc
  unfold cycN at hc
  rw [List.take_length] at hc
  obtain ⟨s, hs, rfl⟩ := List.mem_map.1 hc
  obtain ⟨h1, h2⟩ := List.mem_filter.1 hs
  obtain ⟨e, he⟩ := h.lev s h1
  have h3 := dep_lt h.nd (List.ne_nil_of_mem he)
  rw [depN_of h.nd he _ h3] at h2
  simp at h2
  omega
end
theorem chooseF_congr {bf bf' : Ev → Ev → Bool} {E : Ev → Prop} (hb : ∀ x y, E x → E y → bf x y = bf' x y) {l : List Spn} (hl : ∀ c ∈ l, E (evOf c false) ∧ E (evOf c true)) {lo cur : Ev} (hlo : E lo) (hcur : E cur) : chooseF bf l lo cur = chooseF bf' l lo cur ∧ ∀ y, chooseF bf l lo cur = some y → E y.2 := by
  have ha : ∀ x y, E x → E y → askB bf x y = askB bf' x y := fun x y hx hy => by unfold askB; rw [hb x y hx hy]
  have key : ∀ (l : List Spn) (acc : Option (Spn × Ev)), (∀ c ∈ l, E (evOf c false) ∧ E (evOf c true)) → (∀ y, acc = some y → E y.2) → l.foldl (chStep bf lo cur) acc = l.foldl (chStep bf' lo cur) acc ∧ ∀ y, l.foldl (chStep bf lo cur) acc = some y → E y.2 := by
    intro l
    induction l with
    | nil => exact fun acc _ h => ⟨rfl, h⟩
    | cons k l ih =>
      intro acc hl hacc
      obtain ⟨hf, ht⟩ := hl k (by simp)
      have h1 : chStep bf lo cur acc k = chStep bf' lo cur acc k ∧ ∀ y, chStep bf lo cur acc k = some y → E y.2 := by
        rw [chStep_eq, chStep_eq, ← ha _ _ hf hcur, ← ha _ _ hlo ht, ← ha _ _ hf ht, ← ha _ _ ht hcur]
        by_cases hA : (askB bf (evOf k false) cur && askB bf lo (evOf k true) && askB bf (evOf k false) (evOf k true)) = true
        · rw [if_pos hA, if_pos hA]
          have hv : E (if askB bf (evOf k true) cur = true then evOf k true else cur) := by split <;> assumption
          generalize (if askB bf (evOf k true) cur = true then evOf k true else cur) = v at hv
          cases acc with
          | none => exact ⟨rfl, fun y h => by simp only [Option.some.injEq] at h; rw [← h]; exact hv⟩
          | some y0 =>
            have h0 := hacc y0 rfl
            simp only
            rw [← ha _ _ h0 hv]
            refine ⟨rfl, fun y h => ?_⟩
            split at h
            · simp only [Option.some.injEq] at h; rw [← h]; exact hv
            · exact hacc y h
        · rw [if_neg hA, if_neg hA]
          exact ⟨rfl, hacc⟩
      rw [List.foldl_cons, List.foldl_cons, ← h1.1]
      exact ih _ (fun c hc => hl c (by simp [hc])) h1.2
  exact key l none hl (by simp)
theorem wkF_congr {bf bf' : Ev → Ev → Bool} {kid kid' : Int → List Spn} {E : Ev → Prop} {S : Spn → Prop} (hb : ∀ x y, E x → E y → bf x y = bf' x y) (hk : ∀ s, S s → kid s.id = kid' s.id) (hS : ∀ s, S s → ∀ c ∈ kid s.id, S c ∧ E (evOf c false) ∧ E (evOf c true)) :
    ∀ (n : Nat) (s : Spn) (lo cur : Ev), S s → E lo → E cur → wkF bf kid n s lo cur = wkF bf' kid' n s lo cur := by
  have ha : ∀ x y, E x → E y → askB bf x y = askB bf' x y := fun x y hx hy => by unfold askB; rw [hb x y hx hy]
  intro n
  induction n with
  | zero => intros; rfl
  | succ n ih =>
    intro s lo cur hs hlo hcur
    obtain ⟨h1, h2⟩ := chooseF_congr (l := kid s.id) hb (fun c hc => (hS s hs c hc).2) hlo hcur
    simp only [wkF]
    rw [← ha _ _ hlo hcur, ← hk s hs, ← h1]
    cases hC : chooseF bf (kid s.id) lo cur with
    | none => rfl
    | some y =>
      have hy := h2 y hC
      obtain ⟨hm, hf, ht⟩ := hS s hs y.1 (chooseF_mem hC)
      simp only
      rw [← ha _ _ hlo hf]
      have hbE : E (if askB bf lo (evOf y.1 false) = true then evOf y.1 false else lo) := by split <;> assumption
      rw [ih _ _ _ hm hbE hy, ih _ _ _ hs hlo hbE]
def kidL (L : List Spn) (k : Int) : List Spn := L.filter fun x => x.pa == k && x.kd != 5
/-- The path of the definition. -/
def pthM (L : List Spn) (v : List Of) (root : Int) : Int × List Sg := match spId L root with
  | none => (10, [])
  | some s => (0, ((wkF (bfM L v) (kidL L) 25 s (evOf s false) (evOf s true)).getD []).reverse)
theorem evs_mem {L : List Spn} {s : Spn} (hs : s ∈ L) (e : Bool) : evOf s e ∈ evsL L := by
  unfold evsL
  rw [List.mem_flatMap]
  exact ⟨s, hs, by cases e <;> simp⟩
section
variable {l L : List Spn} {tr : Int} (h : Trn l L tr) (v : List Of)
include h
theorem Trn.kid (k : Int) : kidF (kidM l) k = L.filter fun s => blk s && s.pa == k := by rw [kidF_is, h.srtId]
theorem Trn.kids {s : Spn} (hs : s ∈ L) : kidF (kidM l) s.id = kidL L s.id := by
  rw [h.kid, kidL]
  refine List.filter_congr fun x _ => ?_
  have h0 := h.pos s hs
  show (blk x && x.pa == s.id) = (x.pa == s.id && x.kd != 5)
  by_cases e : x.pa = s.id
  · have e2 : (x.pa == s.id) = true := by rw [beq_iff_eq]; exact e
    have e3 : (x.pa != 0) = true := by rw [bne_iff_ne, e]; exact h0
    rw [e2, blk, e3]; simp
  · have e2 : (x.pa == s.id) = false := by rw [beq_eq_false_iff_ne]; exact e
    rw [e2]; simp
theorem Trn.fuel {s : Spn} (hs : s ∈ L) (lo cur : Ev) : ∃ q, wkF (bfM L v) (kidF (kidM l)) 25 s lo cur = some q := by
  obtain ⟨d, hd⟩ := h.lev s hs
  refine wkF_ex h.nd (tm := timM L v) (fun x y => rfl) ?_ 24 s lo cur d hd ?_
  · intro k z hz
    rw [h.kid] at hz
    obtain ⟨h1, h2⟩ := List.mem_filter.1 hz
    simp only [blk, Bool.and_eq_true, bne_iff_ne, beq_iff_eq] at h2
    exact ⟨h1, h2.2, h2.1.1⟩
  · have := rkE_le L (timM L v) cur
    have := h.len
    omega
theorem Trn.bf (hn : (v.map (·.1)).Nodup) {x y : Ev} (hx : x ∈ evsL L) (hy : y ∈ evsL L) : bfT l v x y = bfM L v x y := by
  have key : ∀ x ∈ evsL L, tmv (tmN l v l.length) x = timM L v x := by
    intro x hx
    obtain ⟨s, hs, hx⟩ := List.mem_flatMap.1 hx
    have hsl := h.perm.mem_iff.1 hs
    have : ∀ e, tmv (tmN l v l.length) (evOf s e) = timM L v (evOf s e) := fun e => by
      rw [tmv_is v h.ndl hsl e, timM_is v h.nd hs e, atV, off_eq hn]
    simp only [List.mem_cons, List.not_mem_nil, or_false] at hx
    rcases hx with rfl | rfl
    · exact this false
    · exact this true
  unfold bfT bfM
  rw [key x hx, key y hy]
theorem Trn.same (hn : (v.map (·.1)).Nodup) (n : Nat) {s : Spn} {lo cur : Ev} (hs : s ∈ L) (hlo : lo ∈ evsL L) (hcur : cur ∈ evsL L) : wkF (bfT l v) (kidF (kidM l)) n s lo cur = wkF (bfM L v) (kidL L) n s lo cur :=
  wkF_congr (E := fun x => x ∈ evsL L) (S := fun s => s ∈ L) (fun x y hx hy => h.bf v hn hx hy) (fun s hs => h.kids hs) (fun s hs c hc => by
    rw [h.kid] at hc
    have h1 := (List.mem_filter.1 hc).1
    exact ⟨h1, evs_mem h1 _, evs_mem h1 _⟩) n s lo cur hs hlo hcur
theorem Trn.sameM (n : Nat) {s : Spn} {lo cur : Ev} (hs : s ∈ L) (hlo : lo ∈ evsL L) (hcur : cur ∈ evsL L) : wkF (bfM L v) (kidF (kidM l)) n s lo cur = wkF (bfM L v) (kidL L) n s lo cur :=
  wkF_congr (E := fun x => x ∈ evsL L) (S := fun s => s ∈ L) (fun x y hx hy => rfl) (fun s hs => h.kids hs) (fun s hs c hc => by
    rw [h.kid] at hc
    have h1 := (List.mem_filter.1 hc).1
    exact ⟨h1, evs_mem h1 _, evs_mem h1 _⟩) n s lo cur hs hlo hcur
theorem Trn.walkIs (hn : (v.map (·.1)).Nodup) (root : Int) : WalkIs l root (bfT l v) (pthM L v root) := by
  unfold WalkIs pthM
  have hl := h.lenl
  rw [if_neg (by omega), h.spId root]
  cases hs : Go.Proofs.YthlimkmjobpjoaaGreat.spId L root with
  | none => rfl
  | some s =>
    obtain ⟨h1, h2⟩ := spId_mem hs
    simp only
    rw [h.tr s h1, h.of, h.cyc root, if_neg (by simp)]
    obtain ⟨q, hq⟩ := h.fuel v h1 (evOf s false) (evOf s true)
    have hq2 := hq
    rw [h.sameM v 25 h1 (evs_mem h1 _) (evs_mem h1 _)] at hq2
    have hq3 := hq2
    rw [← h.same v hn 25 h1 (evs_mem h1 _) (evs_mem h1 _)] at hq3
    have hlen := wkF_len hq2
    refine ⟨25, q, hq3, by omega, ?_⟩
    rw [hq2]; rfl
theorem Trn.c13 (c53 : SortC Tryz.prog 164 14) (c71 : SortI Tryz.prog 56) (g85 : GrowC Tryz.prog 107 3 1 8) (hv : ∀ x ∈ v, I64 x.1) (hn : (v.map (·.1)).Nodup) (hc : chkE l v = 0) (root : Int) : PCall Tryz.prog 50 [spsT l, ofsT v, ft (.int .i64 root)] (pthT (pthM L v root)) := by
  refine path_c0 l v root (fun s hs => (h.intl s hs).2.2.2) hv (fun s hs => ⟨(h.intl s hs).1, (h.intl s hs).2.1⟩) _ (fun _ => ?_) (fun hne => absurd hc hne)
  exact walkTop_c c53 c71 g85 l root 90 _ (bfT l v) (path1_c _) h.ndl (fun s hs => ⟨(h.intl s hs).2.1, (h.intl s hs).2.2.1⟩) (fun s hs => (h.intl s hs).1) h.ofO _ (h.walkIs v hn root)
end
end Go.Proofs.YthlimkmjobpjoaaGreat
namespace Go.Proofs.YthlimkmjobpjoaaGreat
open Go.RowKit Go.Exe
theorem tI162 : TI Tryz.prog 162 = some (false, 1) := by kernel_rfl
theorem tE162 : EInfo Tryz.prog 162 = some (1, 8) := by kernel_rfl
theorem tZ162 : ZV Tryz.prog 162 = some [.nilFunc] := by kernel_rfl
theorem tG162 : ZG Tryz.prog 162 = some (false, [.nilFunc]) := by kernel_rfl
attribute [go_sem] tI162 tE162 tZ162 tG162
/-! ### what is below a span -/
def chOf (nds : List Nd) (id : Int) : Option (List Int) := match nds[fnd nds id]? with
  | some n => if n.id = id then some n.ch else none
  | none => none
def visF (nds : List Nd) : Nat → List Int → Int → List Int
  | 0, seen, _ => seen
  | n + 1, seen, id => match chOf nds id with
    | none => seen
    | some ch => if id ∈ seen then seen else ch.foldl (visF nds n) (seen ++ [id])
theorem chOf_B (nds : List Nd) (id : Int) : fndB nds id = (chOf nds id).isSome := by
  unfold fndB chOf
  cases nds[fnd nds id]? with
  | none => rfl
  | some n => by_cases h : n.id = id <;> simp [h]
structure OkS (nds : List Nd) (seen : List Int) : Prop where
  nd : seen.Nodup
  sub : ∀ x ∈ seen, x ∈ nds.map (·.id)
theorem chOf_mem {nds : List Nd} {id : Int} {ch : List Int} (h : chOf nds id = some ch) : ∃ n ∈ nds, nds[fnd nds id]? = some n ∧ n.id = id ∧ n.ch = ch := by
  unfold chOf at h
  cases hx : nds[fnd nds id]? with
  | none => rw [hx] at h; cases h
  | some n =>
    rw [hx] at h
    by_cases e : n.id = id
    · simp only [if_pos e, Option.some.injEq] at h
      exact ⟨n, List.mem_of_getElem? hx, rfl, e, h⟩
    · simp only [if_neg e] at h; cases h
theorem OkS.snoc {nds : List Nd} {seen : List Int} (h : OkS nds seen) {id : Int} {ch : List Int} (hc : chOf nds id = some ch) (hn : id ∉ seen) : OkS nds (seen ++ [id]) := by
  refine ⟨List.nodup_append.2 ⟨h.nd, by simp, fun x hx y hy => by simp at hy; subst hy; exact fun e => hn (e ▸ hx)⟩, fun x hx => ?_⟩
  rcases List.mem_append.1 hx with hx | hx
  · exact h.sub x hx
  · simp at hx
    subst hx
    obtain ⟨n, hm, _, e, _⟩ := chOf_mem hc
    exact List.mem_map.2 ⟨n, hm, e⟩
theorem OkS.len {nds : List Nd} {seen : List Int} (h : OkS nds seen) : seen.length ≤ nds.length := by
  have := h.nd.length_le_of_subset h.sub
  rwa [List.length_map] at this
theorem visF_ok (nds : List Nd) : ∀ (n : Nat) (seen : List Int) (id : Int), OkS nds seen → OkS nds (visF nds n seen id) ∧ seen.length ≤ (visF nds n seen id).length
  | 0, seen, id, h => ⟨h, Nat.le_refl _⟩
  | n + 1, seen, id, h => by
    unfold visF
    cases hc : chOf nds id with
    | none => exact ⟨h, Nat.le_refl _⟩
    | some ch =>
      by_cases hn : id ∈ seen
      · simp only [if_pos hn]; exact ⟨h, Nat.le_refl _⟩
      · simp only [if_neg hn]
        have key : ∀ (ch : List Int) (s : List Int), OkS nds s → OkS nds (ch.foldl (visF nds n) s) ∧ s.length ≤ (ch.foldl (visF nds n) s).length := by
          intro ch
          induction ch with
          | nil => exact fun s h => ⟨h, Nat.le_refl _⟩
          | cons c r ih =>
            intro s h
            have h1 := visF_ok nds n s c h
            have h2 := ih _ h1.1
            exact ⟨h2.1, Nat.le_trans h1.2 h2.2⟩
        have := key ch _ (h.snoc hc hn)
        rw [List.length_append] at this
        exact ⟨this.1, by omega⟩
theorem msE_in {ks : List Int} {k : Int} (h : k ∈ ks) : mget (.int .i64 k) (msE ks) = some (false, [fl (.bool true)]) := by
  induction ks with
  | nil => cases h
  | cons y r ih =>
    simp only [msE, List.map_cons, mget] at ih ⊢
    by_cases e : y = k
    · subst e; simp
    · rw [if_neg (by simpa using e)]
      exact ih ((List.mem_cons.1 h).resolve_left fun e2 => e e2.symm)
theorem msE_out {ks : List Int} {k : Int} (h : k ∉ ks) : mget (.int .i64 k) (msE ks) = none := by
  induction ks with
  | nil => rfl
  | cons y r ih =>
    simp only [msE, List.map_cons, mget] at ih ⊢
    rw [if_neg (by simpa using fun e : y = k => h (by simp [e]))]
    exact ih fun h2 => h (by simp [h2])
attribute [local irreducible] W AX Run RunD AStep AOp AOpX AStB AStH AStG Fits PCall GCall PostG Post Stop
theorem visit_c {t : Tr} (hs : t.nds.Pairwise fun a b => a.id < b.id) (hI : ∀ n ∈ t.nds, ∀ c ∈ n.ch, I64 c) {l : Nat} {J : List Int → (Nat → Prop) → List Nat → World → Prop} (hJ : ∀ pre, RStable (J pre)) (hY : ∀ pre x, pre.length < t.nds.length → YC Tryz.prog l (J pre) (ft (.int .i64 x)) (J (pre ++ [x]))) :
    ∀ (n : Nat) (seen : List Int) (id : Int), OkS t.nds seen → t.nds.length < n + seen.length → I64 id →
      GCall Tryz.prog 111 5 (St.g [ft (.int .i64 id), .c (.im (.pt (trA t))), .c (.ptr 1 0), .c (.ptr 3 0), .c (.ptr 4 0)] [(0, .raw (J seen)), (1, .box 127 [.mp 2]), (2, .map 3 (msE seen)), (3, .box 162 [fl (.func (.yield l) #[] #[])]), (4, .box 162 [.clq 111 [.pt (trA t)] [(1, 0), (3, 0), (4, 0)]])] 5)
        (St.r (ft (.bool true)) [(0, .raw (J (visF t.nds n seen id))), (1, .box 127 [.mp 2]), (2, .map 3 (msE (visF t.nds n seen id))), (3, .box 162 [fl (.func (.yield l) #[] #[])]), (4, .box 162 [.clq 111 [.pt (trA t)] [(1, 0), (3, 0), (4, 0)]])] 5) := by
  intro n
  induction n with
  | zero => intro seen id hok hlt; have := hok.len; omega
  | succ n ih =>
    intro seen id hok hlt hid
    have ci := index_c t id hs
    have hko := koI hid
    unfold visF
    simp only [trT, trA, List.map] at ci ⊢
    cases hc : chOf t.nds id with
    | none =>
      have hb : fndB t.nds id = false := by rw [chOf_B, hc]; rfl
      rw [hb] at ci
      clear ih
      refine GCall.introG (nt := 46) (rs := [.tmp 6]) Tryz.func111 rfl ⟨by kernel_rfl, by kernel_rfl, by kernel_rfl⟩ (by simp) ?_
      rintro ⟨P, w0, ok0, may, np, pblk⟩ rfl rfl
      simp only [go_sem]
      repeat' (first | refine W.seq fun K hK => ?_ | refine W.block ?_ | ((first | refine wR ?_ | refine wD ?_ | refine W.skip ?_ | refine W.exit ?_ | refine W.ret (Post.ret ?_) | refine aP ?_ | refine aF ?_ | refine aY (k0 := 0) ?_ | refine aL ?_ | refine aU ?_ | refine aM ?_ | refine aN ?_ | refine aR ?_); simp only [go_sem, reduceCtorEq]) | refine wT ?_ | refine wF ?_ | refine wC (fun h => ?_) (fun h => ?_) | refine iK ?_ | refine aI2 ?_ | (refine hK _ ?_; clear hK K) | clear hK K)
      refine W.ret (PostG.ret (Fits.fit [(0, 0), (1, 1), (2, 2), (3, 3), (4, 4)] [6] 5 rfl rfl Fits.rfl) rfl rfl ?_)
      simp only [St.r, go_sem, rnEs_msE]
    | some ch =>
      have hb : fndB t.nds id = true := by rw [chOf_B, hc]; rfl
      rw [hb] at ci
      by_cases hin : id ∈ seen
      · have hget := msE_in hin
        simp only [if_pos hin]
        clear ih
        refine GCall.introG (nt := 46) (rs := [.tmp 6]) Tryz.func111 rfl ⟨by kernel_rfl, by kernel_rfl, by kernel_rfl⟩ (by simp) ?_
        rintro ⟨P, w0, ok0, may, np, pblk⟩ rfl rfl
        simp only [go_sem]
        repeat' (first | refine W.seq fun K hK => ?_ | refine W.block ?_ | ((first | refine wR ?_ | refine wD ?_ | refine W.skip ?_ | refine W.exit ?_ | refine W.ret (Post.ret ?_) | refine aP ?_ | refine aF ?_ | refine aY (k0 := 0) ?_ | refine aL ?_ | refine aU (hnn := by simp only [go_sem, reduceCtorEq, hget]) ?_ | refine aM ?_ | refine aN ?_ | refine aR ?_); simp only [go_sem, reduceCtorEq, hget]) | refine wT ?_ | refine wF ?_ | refine wC (fun h => ?_) (fun h => ?_) | refine iK ?_ | refine aI2 ?_ | (refine hK _ ?_; clear hK K) | clear hK K)
        refine W.ret (PostG.ret (Fits.fit [(0, 0), (1, 1), (2, 2), (3, 3), (4, 4)] [6] 5 rfl rfl Fits.rfl) rfl rfl ?_)
        simp only [St.r, go_sem, rnEs_msE]
      · obtain ⟨nd, hnm, hnf, hne, hnc⟩ := chOf_mem hc
        have hok2 := hok.snoc hc hin
        have hl2 := hok2.len
        rw [List.length_append, List.length_singleton] at hl2
        have hget := msE_out hin
        have hput : mput (Value.int .i64 id) (false, [fl (.bool true)]) (msE seen) = msE (seen ++ [id]) := by rw [msE_put]; simp [addK, hin]
        have hy := hY seen id (by omega)
        have hIc : ∀ c ∈ ch, I64 c := fun c hcm => hI nd hnm c (hnc ▸ hcm)
        simp only [if_neg hin]
        have hix : (t.nds.map ndA)[fnd t.nds id]? = some (ndA nd) := by rw [List.getElem?_map, hnf]; rfl
        have hlt2 : fnd t.nds id < t.nds.length := (List.getElem?_eq_some_iff.1 hnf).1
        have f1 : decide (fnd t.nds id < t.nds.length) = true := by simp [hlt2]
        subst hnc
        refine GCall.introG (nt := 46) (rs := [.tmp 6]) Tryz.func111 rfl ⟨by kernel_rfl, by kernel_rfl, by kernel_rfl⟩ (by simp) ?_
        rintro ⟨P, w0, ok0, may, np, pblk⟩ rfl rfl
        simp only [go_sem]
        repeat' (first | refine W.seq fun K hK => ?_ | refine W.block ?_ | ((first | refine wR ?_ | refine wD ?_ | refine W.skip ?_ | refine W.exit ?_ | refine W.ret (Post.ret ?_) | refine aP ?_ | refine aF ?_ | refine aY (k0 := 0) ?_ | refine aL ?_ | refine aU (hnn := by simp only [go_sem, reduceCtorEq, hget, hput, hko, hix, ndA, f1, List.length_map]) ?_ | refine aM ?_ | refine aN ?_ | refine aR ?_); simp only [go_sem, reduceCtorEq, hget, hput, hko, hix, ndA, f1, List.length_map]) | refine wT ?_ | refine wF ?_ | refine wC (fun h => ?_) (fun h => ?_) | refine iK ?_ | refine aI2 ?_ | (refine hK _ ?_; clear hK K) | clear hK K)
        refine W.lenB 35 rfl tE3 fun _ hcb => ?_
        rw [List.length_map] at hcb
        clear hget hput hix f1 ci hy
        obtain ⟨sq, hsq⟩ : ∃ sq : Nat → List Int, sq = fun i => (nd.ch.take i).foldl (visF t.nds n) (seen ++ [id]) := ⟨_, rfl⟩
        have hsq0 : sq 0 = seen ++ [id] := by rw [hsq]; rfl
        have hsqe : sq nd.ch.length = nd.ch.foldl (visF t.nds n) (seen ++ [id]) := by rw [hsq]; simp
        have hsqs : ∀ i c, nd.ch[i]? = some c → sq (i + 1) = visF t.nds n (sq i) c := fun i c hc => by rw [hsq]; simp only [List.take_add_one, hc, Option.toList_some, List.foldl_append, List.foldl_cons, List.foldl_nil]
        rw [← hsqe, ← hsq0]
        refine W.loopF (T := fun i : Nat => { t := [(2, .c (.ptr 1 0)), (3, .c (.ptr 3 0)), (4, .c (.ptr 4 0)), (35, intsT nd.ch), (36, ft (.int .i64 nd.ch.length)), (37, ft (.int .i64 (i : Nat)))], h := [(0, .raw (J (sq i))), (1, .box 127 [.mp 2]), (2, .map 3 (msE (sq i))), (3, .box 162 [fl (.func (.yield l) #[] #[])]), (4, .box 162 [.clq 111 [.pt (trA t)] [(1, 0), (3, 0), (4, 0)]])], nx := 5, ex := [], nt := 46 })
          (Inv := fun i => i ≤ nd.ch.length ∧ OkS t.nds (sq i) ∧ seen.length + 1 ≤ (sq i).length) (μ := fun i => nd.ch.length - i) (x0 := 0) ?_ ⟨Nat.zero_le _, by rw [hsq0]; exact hok2, by rw [hsq0]; simp⟩ ?_
        · refine Fits.fit [(0, 0), (1, 1), (2, 2), (3, 3), (4, 4)] [2, 3, 4, 35, 36, 37] 5 rfl rfl ?_
          simp only [go_sem, rnEs_msE, trA]
          exact Fits.rfl
        rintro i ⟨hi, hoki, hli⟩ KL hKL
        by_cases hlt : i < nd.ch.length
        · obtain ⟨c, hx, hm, _⟩ := drop_at hlt
          have e1 : decide ((i : Int) < nd.ch.length) = true := by simp; omega
          have e2 : decide (i < nd.ch.length) = true := by simp; omega
          have hw := w64s i (by omega)
          have hG := (ih (sq i) c hoki (by omega) (hIc c hm)).toE
          have hst := hsqs i c hx
          have hv := visF_ok t.nds n (sq i) c hoki
          rw [← hst] at hv hG
          clear ih hsqs hsqe hsq0
          repeat' (first | refine W.stop (id := 10) ?_ | refine W.seq fun K hK => ?_ | refine W.block ?_ | ((first | refine wR ?_ | refine wD ?_ | refine W.skip ?_ | refine W.exit ?_ | refine W.ret (Post.ret ?_) | refine aP ?_ | refine aF ?_ | refine aY (k0 := 0) ?_ | refine aL ?_ | refine aU (hnn := by simp only [go_sem, reduceCtorEq, List.getElem?_map, hx, iA, e1, e2, List.length_map]) ?_ | refine aM ?_ | refine aN ?_ | refine aR ?_); simp only [go_sem, reduceCtorEq, List.getElem?_map, hx, iA, e1, e2, List.length_map]) | refine wT ?_ | refine wF ?_ | refine wC (fun h => ?_) (fun h => ?_) | refine iK ?_ | refine aI2 ?_ | (refine hK _ ?_; clear hK K) | clear hK K)
          refine Stop.out ?_
          refine W.regE ?_
          refine ⟨rfl, OpE.ofAOp 900 (by simp [St.used]) ?_⟩
          simp only [go_sem]
          refine ⟨rfl, OpE.ofAOp 901 (by simp [St.used]) ?_⟩
          simp only [go_sem]
          refine ⟨rfl, OpE.gcallQ 902 [0, 1, 2, 3, 4] rfl rfl hG rfl (by simp only [go_sem, rnEs_msE]) rfl rfl rfl rfl (fun _ _ => rfl) rfl rfl (by simp [St.used]) fun _ _ => ?_⟩
          simp only [go_sem, rnEs_msE]
          refine ⟨rfl, OpE.ofAOp 903 (by simp [St.used]) ?_⟩
          simp only [go_sem]
          refine ⟨_, Fits.fit [(0, 0), (1, 1), (2, 2), (3, 3), (4, 4)] [2, 3, 4, 35, 36, 37, 44] 5 rfl rfl Fits.rfl, ?_⟩
          simp only [go_sem, rnEs_msE]
          repeat' (first | refine W.seq fun K hK => ?_ | refine W.block ?_ | ((first | refine wR ?_ | refine wD ?_ | refine W.skip ?_ | refine W.exit ?_ | refine W.ret (Post.ret ?_) | refine aP ?_ | refine aF ?_ | refine aY (k0 := 0) ?_ | refine aL ?_ | refine aU (hnn := by simp only [go_sem, reduceCtorEq, hw]) ?_ | refine aM ?_ | refine aN ?_ | refine aR ?_); simp only [go_sem, reduceCtorEq, hw]) | refine wT ?_ | refine wF ?_ | refine wC (fun h => ?_) (fun h => ?_) | refine iK ?_ | refine aI2 ?_ | (refine hK _ ?_; clear hK K) | clear hK K)
          refine hKL.to (i + 1) ⟨by omega, hv.1, by omega⟩ (by omega) ?_
          refine Fits.fit [(0, 0), (1, 1), (2, 2), (3, 3), (4, 4)] [2, 3, 4, 35, 36, 37] 5 rfl rfl ?_
          simp only [go_sem, rnEs_msE]
          exact Fits.rfl
        · obtain rfl : i = nd.ch.length := by omega
          have e1 : decide ((nd.ch.length : Int) < nd.ch.length) = false := by simp
          clear hKL ih
          repeat' (first | refine W.seq fun K hK => ?_ | refine W.block ?_ | ((first | refine wR ?_ | refine wD ?_ | refine W.skip ?_ | refine W.exit ?_ | refine W.ret (Post.ret ?_) | refine aP ?_ | refine aF ?_ | refine aY (k0 := 0) ?_ | refine aL ?_ | refine aU (hnn := by simp only [go_sem, reduceCtorEq, e1]) ?_ | refine aM ?_ | refine aN ?_ | refine aR ?_); simp only [go_sem, reduceCtorEq, e1]) | refine wT ?_ | refine wF ?_ | refine wC (fun h => ?_) (fun h => ?_) | refine iK ?_ | refine aI2 ?_ | (refine hK _ ?_; clear hK K) | clear hK K)
          refine W.ret (PostG.ret (Fits.fit [(0, 0), (1, 1), (2, 2), (3, 3), (4, 4)] [6] 5 rfl rfl Fits.rfl) rfl rfl ?_)
          simp only [St.r, go_sem, rnEs_msE, trA, hsqe]
def subF (nds : List Nd) (id : Int) : List Int := visF nds (nds.length + 1) [] id
theorem below1_it {t : Tr} (hs : t.nds.Pairwise fun a b => a.id < b.id) (hI : ∀ n ∈ t.nds, ∀ c ∈ n.ch, I64 c) (id : Int) (hid : I64 id) : ItC Tryz.prog 110 [.c (.im (.pt (trA t))), .c (.im (.pt [.flat (.int .i64 id)]))] (fun k => ft (.int .i64 k)) (fun ys => ys = subF t.nds id) t.nds.length := by
  intro l J hJ hY
  have hG := (visit_c hs hI hJ hY (t.nds.length + 1) [] id ⟨List.nodup_nil, by simp⟩ (by simp) hid).toE
  rw [show visF t.nds (t.nds.length + 1) [] id = subF t.nds id from rfl] at hG
  refine GCall.introG (nt := 11) (rs := []) Tryz.func110 rfl ⟨by kernel_rfl, by kernel_rfl, by kernel_rfl⟩ (by simp) ?_
  rintro ⟨P, w0, ok0, may, np, pblk⟩ rfl rfl
  simp only [go_sem]
  repeat' (first | refine W.stop (id := 3) ?_ | refine W.seq fun K hK => ?_ | refine W.block ?_ | ((first | refine wR ?_ | refine wD ?_ | refine W.skip ?_ | refine W.exit ?_ | refine W.ret (Post.ret ?_) | refine aP ?_ | refine aF ?_ | refine aY (k0 := 0) ?_ | refine aL ?_ | refine aU ?_ | refine aM ?_ | refine aN ?_ | refine aR ?_); simp only [go_sem, reduceCtorEq]) | refine wT ?_ | refine wF ?_ | refine wC (fun h => ?_) (fun h => ?_) | refine iK ?_ | refine aI2 ?_ | (refine hK _ ?_; clear hK K) | clear hK K)
  refine Stop.out ?_
  clear hY
  refine W.fits (s' := { t := [(1, .c (.im (.pt (trA t)))), (2, .c (.im (.pt [.flat (.int .i64 id)]))), (3, .c (.ptr 3 0)), (4, .c (.ptr 1 0)), (5, .c (.ptr 4 0))], h := [(0, .raw (J [])), (1, .box 127 [.mp 2]), (2, .map 3 (msE [])), (3, .box 162 [fl (.func (.yield l) #[] #[])]), (4, .box 162 [fl .nilFunc])], nx := 5, ex := [], nt := 11 }) ?_ ?_
  · refine Fits.fit [(0, 0), (3, 1), (2, 2), (1, 3), (5, 4)] [1, 2, 3, 4, 5] 5 rfl rfl ?_
    exact Fits.rfl
  refine W.regE ?_
  refine ⟨rfl, OpE.makeFnQ (y1 := [.tmp 1]) (y2 := [.tmp 4, .tmp 3, .tmp 5]) rfl rfl rfl rfl rfl ?_⟩
  simp only [go_sem]
  refine ⟨rfl, OpE.ofAOp 901 (by simp [St.used]) ?_⟩
  simp only [go_sem]
  refine ⟨_, Fits.fit [(0, 0), (1, 1), (2, 2), (3, 3), (4, 4)] [2, 5] 5 rfl rfl Fits.rfl, ?_⟩
  simp only [go_sem, rnEs_msE]
  repeat' (first | refine W.stop (id := 4) ?_ | refine W.seq fun K hK => ?_ | refine W.block ?_ | ((first | refine wR ?_ | refine wD ?_ | refine W.skip ?_ | refine W.exit ?_ | refine W.ret (Post.ret ?_) | refine aP ?_ | refine aF ?_ | refine aY (k0 := 0) ?_ | refine aL ?_ | refine aU ?_ | refine aM ?_ | refine aN ?_ | refine aR ?_); simp only [go_sem, reduceCtorEq]) | refine wT ?_ | refine wF ?_ | refine wC (fun h => ?_) (fun h => ?_) | refine iK ?_ | refine aI2 ?_ | (refine hK _ ?_; clear hK K) | clear hK K)
  refine Stop.out ?_
  refine W.regE ?_
  refine ⟨rfl, OpE.ofAOp 900 (by simp [St.used]) ?_⟩
  simp only [go_sem]
  refine ⟨rfl, OpE.ofAOp 901 (by simp [St.used]) ?_⟩
  simp only [go_sem]
  refine ⟨rfl, OpE.gcallQ 902 [0, 1, 2, 3, 4] rfl rfl hG rfl (by simp only [go_sem, rnEs_msE]) rfl rfl rfl rfl (fun _ _ => rfl) rfl rfl (by simp [St.used]) fun _ _ => ?_⟩
  simp only [go_sem, rnEs_msE]
  refine ⟨_, Fits.rfl, ?_⟩
  refine PostG.normal (Fits.weak 0 (o1 := .raw fun ok B w => ∃ ys, ys = subF t.nds id ∧ J ys ok B w) rfl rfl (fun ok w L h => ?_) (Fits.fit [(0, 0)] [] 1 rfl rfl Fits.rfl)) rfl rfl ?_
  · obtain ⟨h1, h2, _⟩ := h
    exact ⟨h1, ⟨_, rfl, h2⟩, fun ok ok' B w w' ⟨ys, e, hj⟩ k1 k2 => ⟨ys, e, hJ _ ok ok' B w w' hj k1 k2⟩⟩
  · simp only [St.r, go_sem]
theorem below_c (t : Tr) (id : Int) : PCall Tryz.prog 81 [trT t, ft (.int .i64 id)] (.c (.im (.fn 110 [.pt (trA t), .pt [.flat (.int .i64 id)]]))) := by
  simp only [trT, trA, List.map]
  refine PCall.intro (nt := 6) (rs := [.tmp 4]) Tryz.func81 rfl ⟨by kernel_rfl, by kernel_rfl, by kernel_rfl⟩ (by simp) ?_
  rintro ⟨P, w0, ok0, may, np, pblk⟩ rfl rfl
  repeat' (first | refine W.stop (id := 1) ?_ | refine W.seq fun K hK => ?_ | refine W.block ?_ | ((first | refine wR ?_ | refine wD ?_ | refine W.skip ?_ | refine W.exit ?_ | refine W.ret (Post.ret ?_) | refine aP ?_ | refine aF ?_ | refine aY (k0 := 0) ?_ | refine aL ?_ | refine aU ?_ | refine aM ?_ | refine aN ?_ | refine aR ?_); simp only [go_sem, reduceCtorEq]) | refine wT ?_ | refine wF ?_ | refine wC (fun h => ?_) (fun h => ?_) | refine iK ?_ | refine aI2 ?_ | (refine hK _ ?_; clear hK K) | clear hK K)
  refine Stop.out ?_
  refine W.fits (s' := { t := [(2, .c (.ip (trA t))), (3, .c (.ip [.flat (.int .i64 id)]))], h := [], nx := 2, ex := [], nt := 6 }) (Fits.seeP 2 0 rfl rfl rfl (Fits.seeP 3 1 rfl rfl rfl (Fits.fit [] [2, 3] 2 rfl rfl Fits.rfl))) ?_
  refine W.regE ?_
  refine ⟨rfl, OpE.makeFnPs rfl rfl rfl ?_⟩
  simp only [go_sem]
  refine ⟨rfl, OpE.ofAOp 901 (by simp [St.used]) ?_⟩
  simp only [go_sem]
  refine ⟨_, Fits.fit [] [4] 0 rfl rfl Fits.rfl, ?_⟩
  simp only [go_sem]
  repeat' (first | refine W.seq fun K hK => ?_ | refine W.block ?_ | ((first | refine wR ?_ | refine wD ?_ | refine W.skip ?_ | refine W.exit ?_ | refine W.ret (Post.ret ?_) | refine aP ?_ | refine aF ?_ | refine aY (k0 := 0) ?_ | refine aL ?_ | refine aU (hnn := by simp only [go_sem, reduceCtorEq, trA]) ?_ | refine aM ?_ | refine aN ?_ | refine aR ?_); simp only [go_sem, reduceCtorEq, trA]) | refine wT ?_ | refine wF ?_ | refine wC (fun h => ?_) (fun h => ?_) | refine iK ?_ | refine aI2 ?_ | (refine hK _ ?_; clear hK K) | clear hK K)
theorem subtree_c (t : Tr) (hs : t.nds.Pairwise fun a b => a.id < b.id) (hI : ∀ n ∈ t.nds, ∀ c ∈ n.ch, I64 c) (id : Int) (hid : I64 id) (hlen : t.nds.length * 8 ≤ 140737488355328) : PCall Tryz.prog 44 [trT t, ft (.int .i64 id)] (intsT (subF t.nds id)) := by
  have c1 := below_c t id
  have c2 := collectI_c 110 [.pt (trA t), .pt [.flat (.int .i64 id)]] _ _ (below1_it hs hI id hid) hlen
  have c3 := c2.det
  clear c2
  simp only [trT, trA, List.map] at c1 ⊢
  simp only [trA] at c3
  refine PCall.intro (nt := 9) (rs := [.tmp 4]) Tryz.func44 rfl ⟨by kernel_rfl, by kernel_rfl, by kernel_rfl⟩ (by simp) ?_
  rintro ⟨P, w0, ok0, may, np, pblk⟩ rfl rfl
  repeat' (first | refine W.seq fun K hK => ?_ | refine W.block ?_ | ((first | refine wR ?_ | refine wD ?_ | refine W.skip ?_ | refine W.exit ?_ | refine W.ret (Post.ret ?_) | refine aP ?_ | refine aF ?_ | refine aY (k0 := 0) ?_ | refine aL ?_ | refine aU ?_ | refine aM ?_ | refine aN ?_ | refine aR ?_); simp only [go_sem, reduceCtorEq]) | refine wT ?_ | refine wF ?_ | refine wC (fun h => ?_) (fun h => ?_) | refine iK ?_ | refine aI2 ?_ | (refine hK _ ?_; clear hK K) | clear hK K)
  refine AX.gcall [] rfl rfl (c3) (by simp only [go_sem, reduceCtorEq]) (by simp only [go_sem, reduceCtorEq]) rfl rfl (by simp only [go_sem, Obj.owns]) rfl (by simp only [go_sem, Obj.owns]) rfl rfl ?_
  simp only [go_sem, reduceCtorEq]
  repeat' (first | refine W.seq fun K hK => ?_ | refine W.block ?_ | ((first | refine wR ?_ | refine wD ?_ | refine W.skip ?_ | refine W.exit ?_ | refine W.ret (Post.ret ?_) | refine aP ?_ | refine aF ?_ | refine aY (k0 := 0) ?_ | refine aL ?_ | refine aU ?_ | refine aM ?_ | refine aN ?_ | refine aR ?_); simp only [go_sem, reduceCtorEq]) | refine wT ?_ | refine wF ?_ | refine wC (fun h => ?_) (fun h => ?_) | refine iK ?_ | refine aI2 ?_ | (refine hK _ ?_; clear hK K) | clear hK K)
end Go.Proofs.YthlimkmjobpjoaaGreat
namespace Go.Proofs.YthlimkmjobpjoaaGreat
open Go.RowKit Go.Exe
/-! ### tables: keys, entries, and what a table says of a key -/
structure Ky where
  sv : ByteArray
  ve : ByteArray
  op : ByteArray
theorem Ky.ext' {a b : Ky} (h1 : a.sv = b.sv) (h2 : a.ve = b.ve) (h3 : a.op = b.op) : a = b := by cases a; cases b; simp_all
def cmpKy (a b : Ky) : Int := orL [cmpB a.sv b.sv, cmpB a.ve b.ve, cmpB a.op b.op]
theorem lwKy : Lw cmpKy := by
  have h : Pw cmpKy := Pw.orL (α := Ky) [fun a b => cmpB a.sv b.sv, fun a b => cmpB a.ve b.ve, fun a b => cmpB a.op b.op] (by
    intro f hf
    simp only [List.mem_cons, List.not_mem_nil, or_false] at hf
    rcases hf with rfl | rfl | rfl
    · exact lwB.pw fun a : Ky => a.sv
    · exact lwB.pw fun a : Ky => a.ve
    · exact lwB.pw fun a : Ky => a.op)
  refine ⟨h.anti, h.tr, fun a b e => ?_⟩
  have hz := orL_zero e
  exact Ky.ext' (lwB.eq _ _ (hz _ (by simp))) (lwB.eq _ _ (hz _ (by simp))) (lwB.eq _ _ (hz _ (by simp)))
def eqKy (a b : Ky) : Bool := cmpKy a b == 0
theorem eqKy_iff {a b : Ky} : eqKy a b = true ↔ a = b := by
  unfold eqKy
  rw [beq_iff_eq]
  exact ⟨lwKy.eq a b, fun e => by rw [e]; exact lwKy.refl b⟩
theorem eqKy_refl (a : Ky) : eqKy a a = true := eqKy_iff.2 rfl
theorem eqKy_ne {a b : Ky} (h : a ≠ b) : eqKy a b = false := by
  cases e : eqKy a b with
  | false => rfl
  | true => exact absurd (eqKy_iff.1 e) h
instance : DecidableEq Ky := fun a b => decidable_of_iff (eqKy a b = true) eqKy_iff
structure En where
  k : Ky
  ti : Int
  sp : Int
  er : Int
  og : Int
/-- The four numbers. -/
structure Nm where
  ti : Int
  sp : Int
  er : Int
  og : Int
def En.nm (e : En) : Nm := ⟨e.ti, e.sp, e.er, e.og⟩
def Nm.z : Nm := ⟨0, 0, 0, 0⟩
def Nm.pl (a b : Nm) (n : Int) : Nm := ⟨a.ti + n * b.ti, a.sp + n * b.sp, a.er + n * b.er, a.og + n * b.og⟩
def En.emp (e : En) : Bool := e.ti == 0 && e.sp == 0 && e.er == 0 && e.og == 0
/-- What a list of entries says of a key: the first entry's numbers, or zeros. -/
def num : List En → Ky → Nm
  | [], _ => Nm.z
  | x :: r, k => if x.k = k then x.nm else num r k
/-! ### sorted tables -/
abbrev ltE (a b : En) : Prop := cmpKy a.k b.k < 0
abbrev Srt (T : List En) : Prop := T.Pairwise ltE
/-- The order of a table is a matter of its members alone. -/
theorem srt_uni {T U : List En} (hT : Srt T) (hU : Srt U) (h : ∀ x, x ∈ T ↔ x ∈ U) : T = U := by
  induction T generalizing U with
  | nil =>
    cases U with
    | nil => rfl
    | cons u U => exact absurd ((h u).2 (by simp)) (by simp)
  | cons t T ih =>
    cases U with
    | nil => exact absurd ((h t).1 (by simp)) (by simp)
    | cons u U =>
      obtain ⟨t1, t2⟩ := List.pairwise_cons.1 hT
      obtain ⟨u1, u2⟩ := List.pairwise_cons.1 hU
      have e : t = u := by
        rcases List.mem_cons.1 ((h t).1 (by simp)) with e | e
        · exact e
        · rcases List.mem_cons.1 ((h u).2 (by simp)) with e2 | e2
          · exact e2.symm
          · have a1 := u1 t e
            have a2 := t1 u e2
            have := lwKy.anti t.k u.k
            unfold ltE at a1 a2
            omega
      subst e
      have irr : ∀ {l : List En}, (∀ b ∈ l, ltE t b) → t ∉ l := fun h1 h2 => by
        have := h1 t h2
        unfold ltE at this
        rw [lwKy.refl] at this
        omega
      rw [ih t2 u2 fun x => ⟨fun hx => ?_, fun hx => ?_⟩]
      · rcases List.mem_cons.1 ((h x).1 (by simp [hx])) with rfl | e
        · exact absurd hx (irr t1)
        · exact e
      · rcases List.mem_cons.1 ((h x).2 (by simp [hx])) with rfl | e
        · exact absurd hx (irr u1)
        · exact e
/-! ### sums by key -/
def hasK (M : List En) (k : Ky) : Bool := M.any fun x => eqKy x.k k
theorem hasK_iff {M : List En} {k : Ky} : hasK M k = true ↔ ∃ x ∈ M, x.k = k := by
  unfold hasK
  rw [List.any_eq_true]
  exact ⟨fun ⟨x, h1, h2⟩ => ⟨x, h1, eqKy_iff.1 h2⟩, fun ⟨x, h1, h2⟩ => ⟨x, h1, eqKy_iff.2 h2⟩⟩
abbrev Unq (M : List En) : Prop := M.Pairwise fun a b => a.k ≠ b.k
def cmpE (a b : En) : Int := cmpKy a.k b.k
def tblE (M : List En) : List En := srtG cmpE (M.filter fun e => !e.emp)
theorem tblE_perm (M : List En) : (tblE M).Perm (M.filter fun e => !e.emp) := srtG_perm _ _
theorem tblE_srt {M : List En} (h : Unq M) : Srt (tblE M) := by
  have h1 : (tblE M).Pairwise fun a b => a.k ≠ b.k := ((tblE_perm M).pairwise_iff (fun {a b} h => Ne.symm h)).2 (h.filter _)
  have h2 : (tblE M).Pairwise fun a b => cmpKy a.k b.k ≤ 0 := by
    refine (List.pairwise_mergeSort (le := fun a b => decide (cmpE a b ≤ 0)) (fun a b c h1 h2 => ?_) (fun a b => ?_) (M.filter fun e => !e.emp)).imp fun {a b} h => of_decide_eq_true h
    · exact decide_eq_true (lwKy.tr _ _ _ (of_decide_eq_true h1) (of_decide_eq_true h2))
    · have := lwKy.anti a.k b.k
      unfold cmpE
      rw [Bool.or_eq_true, decide_eq_true_eq, decide_eq_true_eq]
      omega
  exact (h1.and h2).imp fun {a b} ⟨h3, h4⟩ => by
    have : cmpKy a.k b.k ≠ 0 := fun e => h3 (lwKy.eq _ _ e)
    unfold ltE
    omega
/-! ### the document's sums -/
end Go.Proofs.YthlimkmjobpjoaaGreat
namespace Go.Proofs.YthlimkmjobpjoaaGreat
open Go.RowKit Go.Exe
/-! ### tables as the machine holds them; sums with the machine's numbers -/
def kyA (k : Ky) : List AV := [.flat (.string k.sv), .flat (.string k.ve), .flat (.string k.op)]
def enA (e : En) : List AV := [.flat (.string e.k.sv), .flat (.string e.k.ve), .flat (.string e.k.op), .flat (.int .i64 e.ti), .flat (.int .i64 e.sp), .flat (.int .i64 e.er), .flat (.int .i64 e.og)]
abbrev kyT (k : Ky) : TV := .g ((kyA k).map .im)
abbrev enT (e : En) : TV := .g ((enA e).map .im)
abbrev tbT (l : List En) : TV := .c (.im (.sl 65 (l.map enA)))
def kyV (k : Ky) : Value := .agg #[.string k.sv, .string k.ve, .string k.op]
theorem kyV_inj {a b : Ky} (h : kyV a = kyV b) : a = b := by
  obtain ⟨a1, a2, a3⟩ := a
  obtain ⟨b1, b2, b3⟩ := b
  simp [kyV] at h
  obtain ⟨rfl, rfl, rfl⟩ := h
  rfl
def wAdd (a b n : Int) : Int := IntKind.i64.wrap (a + IntKind.i64.wrap (n * b))
/-- The program's plus. -/
def plW (x : En) (e : Nm) (n : Int) : En := ⟨x.k, wAdd x.ti e.ti n, wAdd x.sp e.sp n, wAdd x.er e.er n, wAdd x.og e.og n⟩
def addW (M : List En) (k : Ky) (e : Nm) (n : Int) : List En := if hasK M k then M.map fun x => if x.k = k then plW x e n else x else M ++ [plW ⟨k, 0, 0, 0, 0⟩ e n]
def sumW (M : List En) (l : List En) (n : Int) : List En := l.foldl (fun m e => addW m e.k e.nm n) M
def ezE (M : List En) : List (Value × Bool × List Cell) := M.map fun e => (kyV e.k, true, (enA e).map .im)
def ezA (M : List En) : List (Value × Bool × List AV) := M.map fun e => (kyV e.k, true, enA e)
theorem ezE_close (M : List En) : closeE (ezE M) = some (ezA M) := closeE_map _ _ (fun x => ⟨rfl, rfl, by simp [closeL, closeC, enA]⟩) M
theorem rnEs_ezE (r : Ren) (M : List En) : rnEs r (ezE M) = ezE M := rnEs_map r _ (fun _ => rfl) _
theorem addW_unq {M : List En} (h : Unq M) (k : Ky) (e : Nm) (n : Int) : Unq (addW M k e n) := by
  unfold addW
  split
  · unfold Unq
    rw [List.pairwise_map]
    refine h.imp fun {a b} hab => ?_
    have ek : ∀ x : En, (if x.k = k then plW x e n else x).k = x.k := fun x => by split <;> rfl
    rw [ek, ek]
    exact hab
  · rename_i h1
    refine List.pairwise_append.2 ⟨h, List.pairwise_singleton _ _, fun a ha b hb => ?_⟩
    rw [List.mem_singleton.1 hb]
    exact fun e2 => h1 (hasK_iff.2 ⟨a, ha, e2⟩)
theorem sumW_unq {l : List En} {n : Int} : ∀ {M : List En}, Unq M → Unq (sumW M l n) := by
  induction l with
  | nil => exact fun h => h
  | cons e l ih => exact fun h => ih (addW_unq h e.k e.nm n)
theorem addW_len (M : List En) (k : Ky) (e : Nm) (n : Int) : (addW M k e n).length ≤ M.length + 1 := by
  unfold addW
  split <;> simp
theorem sumW_len (l : List En) (n : Int) : ∀ M : List En, (sumW M l n).length ≤ M.length + l.length := by
  induction l with
  | nil => exact fun M => by simp [sumW]
  | cons e l ih =>
    intro M
    have h1 := addW_len M e.k e.nm n
    have h2 := ih (addW M e.k e.nm n)
    show (sumW (addW M e.k e.nm n) l n).length ≤ _
    simp only [List.length_cons]
    omega
/-- The entry with a key. -/
def getE : List En → Ky → Option En
  | [], _ => none
  | x :: r, k => if x.k = k then some x else getE r k
theorem ezE_mget (k : Ky) : ∀ M : List En, mget (kyV k) (ezE M) = (getE M k).map fun x => (true, (enA x).map .im)
  | [] => rfl
  | y :: r => by
    have ih := ezE_mget k r
    simp only [ezE, List.map_cons, mget, getE] at ih ⊢
    by_cases h : y.k = k
    · simp [h]
    · have : ¬ (kyV y.k = kyV k) := fun e => h (kyV_inj e)
      simp [h, this, ih]
theorem getE_none {M : List En} {k : Ky} (h : getE M k = none) : hasK M k = false := by
  induction M with
  | nil => rfl
  | cons y r ih =>
    rw [getE] at h
    split at h
    · cases h
    · rename_i h1
      unfold hasK at ih ⊢
      rw [List.any_cons, ih h, eqKy_ne h1]
      rfl
theorem getE_some {M : List En} {k : Ky} {x : En} (h : getE M k = some x) : x.k = k ∧ hasK M k = true := by
  induction M with
  | nil => cases h
  | cons y r ih =>
    rw [getE] at h
    unfold hasK at ih ⊢
    rw [List.any_cons]
    split at h
    · rename_i h1
      cases h
      rw [h1, eqKy_refl]
      exact ⟨rfl, rfl⟩
    · obtain ⟨h1, h2⟩ := ih h
      exact ⟨h1, by rw [h2, Bool.or_true]⟩
theorem ezE_put_none {M : List En} {x : En} (h : hasK M x.k = false) : mput (kyV x.k) (true, (enA x).map .im) (ezE M) = ezE (M ++ [x]) := by
  induction M with
  | nil => rfl
  | cons y r ih =>
    unfold hasK at h ih
    rw [List.any_cons, Bool.or_eq_false_iff] at h
    have h1 : ¬ kyV y.k = kyV x.k := fun e => by
      have := h.1
      rw [kyV_inj e, eqKy_refl] at this
      cases this
    simp only [ezE, List.map_cons, mput, List.cons_append] at ih ⊢
    simp [h1, ih h.2]
theorem ezE_put_some {M : List En} (hu : Unq M) {x y : En} (h : getE M x.k = some y) : mput (kyV x.k) (true, (enA x).map .im) (ezE M) = ezE (M.map fun z => if z.k = x.k then x else z) := by
  induction M with
  | nil => cases h
  | cons z r ih =>
    obtain ⟨hu1, hu2⟩ := List.pairwise_cons.1 hu
    rw [getE] at h
    simp only [ezE, List.map_cons, mput] at ih ⊢
    by_cases h1 : z.k = x.k
    · have hr : r.map (fun z => if z.k = x.k then x else z) = r := by
        conv => rhs; rw [← List.map_id r]
        exact List.map_congr_left fun w hw => if_neg fun e => hu1 w hw (by rw [h1, e])
      simp [h1, hr]
    · rw [if_neg h1] at h
      have h2 : ¬ kyV z.k = kyV x.k := fun e => h1 (kyV_inj e)
      simp [h1, h2, ih hu2 h]
/-- What add leaves in the map. -/
theorem ezE_add {M : List En} (hu : Unq M) (k : Ky) (e : Nm) (n : Int) : mput (kyV k) (true, (enA (plW ((getE M k).getD ⟨k, 0, 0, 0, 0⟩) e n)).map .im) (ezE M) = ezE (addW M k e n) := by
  unfold addW
  cases h : getE M k with
  | none =>
    rw [if_neg (by rw [getE_none h]; simp)]
    exact ezE_put_none (x := plW ⟨k, 0, 0, 0, 0⟩ e n) (getE_none h)
  | some y =>
    obtain ⟨h1, h2⟩ := getE_some h
    rw [if_pos h2]
    have h3 : (plW y e n).k = k := h1
    have h4 := ezE_put_some hu (x := plW y e n) (y := y) (by rw [h3]; exact h)
    rw [h3] at h4
    rw [Option.getD_some, h4]
    congr 1
    refine List.map_congr_left fun z hz => ?_
    by_cases h5 : z.k = k
    · have : z = y := by
        have h6 : ∀ {M : List En}, Unq M → getE M k = some y → z ∈ M → z = y := by
          intro M
          induction M with
          | nil => intro _ h; cases h
          | cons w r ih =>
            intro hu h hz
            obtain ⟨hu1, hu2⟩ := List.pairwise_cons.1 hu
            rw [getE] at h
            split at h
            · rename_i h7
              cases h
              rcases List.mem_cons.1 hz with rfl | hz
              · rfl
              · exact absurd (h7.trans h5.symm) (hu1 z hz)
            · rename_i h7
              rcases List.mem_cons.1 hz with rfl | hz
              · exact absurd h5 h7
              · exact ih hu2 h hz
        exact h6 hu h hz
      rw [if_pos h5, if_pos h5, this]
    · rw [if_neg h5, if_neg h5]
end Go.Proofs.YthlimkmjobpjoaaGreat
namespace Go.Proofs.YthlimkmjobpjoaaGreat
open Go.RowKit Go.Exe
/-! ### origins and causes -/
def failP (i : Int) (s : Spn) : Bool := s.pa != i || !(s.kd != 5) || !s.er
def failL (l : List Spn) (i : Int) : List Spn := l.filter fun s => !failP i s
def orig (l : List Spn) (s : Spn) : Bool := s.er && (failL l s.id).isEmpty
def origL (l : List Spn) : List Int := (l.filter (orig l)).map Spn.id
theorem failL_mem {l : List Spn} {i : Int} {c : Spn} : c ∈ failL l i ↔ c ∈ l ∧ c.pa = i ∧ c.kd ≠ 5 ∧ c.er = true := by
  unfold failL failP
  rw [List.mem_filter]
  simp [bne, Bool.or_eq_true, and_assoc]
inductive Rch (l : List Spn) (x : Spn) : Spn → Prop
  | root : Rch l x x
  | step {s c : Spn} : Rch l x s → c ∈ failL l s.id → Rch l x c
theorem srtI_sorted (l : List Int) : (srtI l).Pairwise (· ≤ ·) := by
  have h1 : (srtI l).Pairwise (fun a b => decide (a ≤ b) = true) := List.pairwise_mergeSort (le := fun a b : Int => decide (a ≤ b)) (fun a b c h1 h2 => by simp only [decide_eq_true_eq] at *; omega) (fun a b => by simp only [Bool.or_eq_true, decide_eq_true_eq]; omega) l
  exact h1.imp fun {a b} h => by simpa using h
theorem srtI_of {l m : List Int} (hp : l.Perm m) (hs : l.Pairwise (· ≤ ·)) : l = srtI m :=
  List.Perm.eq_of_pairwise (fun a b _ _ h1 h2 => Int.le_antisymm h1 h2) hs (srtI_sorted m) (hp.trans (List.mergeSort_perm m _).symm)
/-! the document's rounds -/
abbrev KB := List (Int × Bool)
def putB : KB → Int → Bool → KB
  | [], k, b => [(k, b)]
  | y :: r, k, b => if y.1 = k then (k, b) :: r else y :: putB r k b
def getB : KB → Int → Option Bool
  | [], _ => none
  | y :: r, k => if y.1 = k then some y.2 else getB r k
abbrev isB (m : KB) (k : Int) : Bool := (getB m k).getD false
theorem getB_put (m : KB) (k : Int) (b : Bool) (k' : Int) : getB (putB m k b) k' = if k = k' then some b else getB m k' := by
  induction m with
  | nil => simp only [putB, getB]
  | cons y r ih =>
    simp only [putB]
    by_cases h : y.1 = k
    · rw [if_pos h]
      simp only [getB]
      by_cases h2 : k = k'
      · rw [if_pos h2, if_pos h2]
      · rw [if_neg h2, if_neg h2, if_neg (by omega)]
    · rw [if_neg h]
      simp only [getB]
      by_cases h2 : y.1 = k'
      · rw [if_pos h2, if_pos h2, if_neg (by omega)]
      · rw [if_neg h2, if_neg h2, ih]
theorem isB_put (m : KB) (k : Int) (k' : Int) : isB (putB m k true) k' = (isB m k' || decide (k = k')) := by
  unfold isB
  rw [getB_put]
  by_cases h : k = k' <;> simp [h]
def stepB (m : KB) (s : Spn) : KB := if s.er && s.kd != 5 && isB m s.pa then putB m s.id true else m
def rndB (l : List Spn) (m : KB) : KB := l.foldl stepB m
def rndsB (l : List Spn) : Nat → KB → KB
  | 0, m => m
  | n + 1, m => rndB l (rndsB l n m)
/-- At the start: what is set for the span with the id. -/
def beginB (l : List Spn) (i : Int) : KB := l.foldl (fun m s => if s.id = i then putB m i s.er else m) []
def causM (l : List Spn) (i : Int) : List Int × Int :=
  if i ∈ idsOf l then ((srtI (origL l)).filter (isB (rndsB l l.length (beginB l i))), 0) else ([], 10)
theorem stepB_mono {m : KB} {s : Spn} {k : Int} (h : isB m k = true) : isB (stepB m s) k = true := by
  unfold stepB
  split
  · rw [isB_put, h, Bool.true_or]
  · exact h
theorem foldB_mono {k : Int} : ∀ {l : List Spn} {m : KB}, isB m k = true → isB (l.foldl stepB m) k = true
  | [], _, h => h
  | s :: l, m, h => foldB_mono (l := l) (stepB_mono h)
abbrev clB (l : List Spn) (m : KB) : Prop := ∀ s ∈ l, s.er = true → s.kd ≠ 5 → isB m s.pa = true → isB m s.id = true
theorem foldB_same : ∀ {l : List Spn} {m : KB}, clB l m → ∀ k, isB (l.foldl stepB m) k = isB m k
  | [], _, _, _ => rfl
  | s :: l, m, h, k => by
    have h1 : ∀ k, isB (stepB m s) k = isB m k := fun k => by
      unfold stepB
      split
      · rename_i hc
        simp only [Bool.and_eq_true, bne_iff_ne, ne_eq] at hc
        have := h s (by simp) hc.1.1 hc.1.2 hc.2
        rw [isB_put]
        by_cases e : s.id = k
        · rw [← e, this]; rfl
        · simp [e]
      · rfl
    show isB (l.foldl stepB (stepB m s)) k = _
    rw [foldB_same (l := l) (m := stepB m s) (fun x hx e1 e2 e3 => by rw [h1] at e3 ⊢; exact h x (by simp [hx]) e1 e2 e3), h1]
theorem foldB_hit {s : Spn} (h2 : s.er = true) (h3 : s.kd ≠ 5) : ∀ {l : List Spn} {m : KB}, s ∈ l → isB m s.pa = true → isB (l.foldl stepB m) s.id = true
  | x :: l, m, h, h4 => by
    rcases List.mem_cons.1 h with rfl | h
    · refine foldB_mono (l := l) ?_
      unfold stepB
      have : (s.er && s.kd != 5 && isB m s.pa) = true := by simp [h2, h3, h4]
      rw [if_pos this, isB_put]
      simp
    · exact foldB_hit h2 h3 (l := l) h (stepB_mono h4)
def cntB (l : List Spn) (m : KB) : Nat := (l.filter fun s => isB m s.id).length
theorem cntB_lt {l : List Spn} {m m' : KB} (h : ∀ k, isB m k = true → isB m' k = true) {s : Spn} (hs : s ∈ l) (h1 : isB m s.id = false) (h2 : isB m' s.id = true) : cntB l m < cntB l m' := by
  unfold cntB
  induction l with
  | nil => cases hs
  | cons x l ih =>
    have hmono : ∀ l : List Spn, (l.filter fun s => isB m s.id).length ≤ (l.filter fun s => isB m' s.id).length := fun l => by
      induction l with
      | nil => simp
      | cons y l ih2 =>
        rw [List.filter_cons, List.filter_cons]
        by_cases e : isB m y.id = true
        · rw [if_pos e, if_pos (h _ e)]; simp only [List.length_cons]; omega
        · rw [if_neg e]
          split
          · simp only [List.length_cons]; omega
          · exact ih2
    rcases List.mem_cons.1 hs with rfl | hs
    · rw [List.filter_cons, List.filter_cons, if_neg (by rw [h1]; simp), if_pos h2]
      have := hmono l
      simp only [List.length_cons]
      omega
    · have := ih hs
      rw [List.filter_cons, List.filter_cons]
      by_cases e : isB m x.id = true
      · rw [if_pos e, if_pos (h _ e)]; simp only [List.length_cons]; omega
      · rw [if_neg e]
        split
        · simp only [List.length_cons]; omega
        · exact this
theorem rndsB_cl (l : List Spn) (m : KB) (h0 : 0 < cntB l m) : ∀ n, clB l (rndsB l n m) ∨ n + 1 ≤ cntB l (rndsB l n m)
  | 0 => .inr h0
  | n + 1 => by
    by_cases hc : clB l (rndsB l n m)
    · refine .inl fun s hs e1 e2 e3 => ?_
      show isB (rndB l (rndsB l n m)) s.id = true
      have e3 : isB (rndB l (rndsB l n m)) s.pa = true := e3
      unfold rndB at e3 ⊢
      rw [foldB_same hc] at e3 ⊢
      exact hc s hs e1 e2 e3
    · rcases rndsB_cl l m h0 n with h | h
      · exact absurd h hc
      · refine .inr ?_
        have : ∃ s ∈ l, s.er = true ∧ s.kd ≠ 5 ∧ isB (rndsB l n m) s.pa = true ∧ isB (rndsB l n m) s.id = false := by
          refine Classical.byContradiction fun hno => hc fun s hs e1 e2 e3 => ?_
          cases e4 : isB (rndsB l n m) s.id with
          | true => rfl
          | false => exact absurd ⟨s, hs, e1, e2, e3, e4⟩ hno
        obtain ⟨s, hs, e1, e2, e3, e4⟩ := this
        have := cntB_lt (l := l) (m := rndsB l n m) (m' := rndB l (rndsB l n m)) (fun k hk => foldB_mono hk) hs e4 (foldB_hit e1 e2 hs e3)
        show n + 1 + 1 ≤ cntB l (rndB l (rndsB l n m))
        omega
theorem rndsB_sound {l : List Spn} {x : Spn} (hn : (idsOf l).Nodup) (m : KB) (hm : ∀ k, isB m k = true → ∃ s ∈ l, s.id = k ∧ Rch l x s) : ∀ n k, isB (rndsB l n m) k = true → ∃ s ∈ l, s.id = k ∧ Rch l x s
  | 0, k, h => hm k h
  | n + 1, k, h => by
    have key : ∀ (q : List Spn) (m : KB), (∀ s ∈ q, s ∈ l) → (∀ k, isB m k = true → ∃ s ∈ l, s.id = k ∧ Rch l x s) → ∀ k, isB (q.foldl stepB m) k = true → ∃ s ∈ l, s.id = k ∧ Rch l x s := by
      intro q
      induction q with
      | nil => exact fun m _ h => h
      | cons c q ih =>
        intro m hq h
        refine ih (stepB m c) (fun s hs => hq s (by simp [hs])) fun k hk => ?_
        unfold stepB at hk
        split at hk
        · rename_i hc
          simp only [Bool.and_eq_true, bne_iff_ne, ne_eq] at hc
          rw [isB_put, Bool.or_eq_true, decide_eq_true_eq] at hk
          rcases hk with hk | hk
          · exact h k hk
          · obtain ⟨p, hp, e1, e2⟩ := h _ hc.2
            exact ⟨c, hq c (by simp), hk, .step e2 (failL_mem.2 ⟨hq c (by simp), e1.symm, hc.1.2, hc.1.1⟩)⟩
        · exact h k hk
    exact key l _ (fun s hs => hs) (rndsB_sound hn m hm n) k h
theorem beginB_is {l : List Spn} (hn : (idsOf l).Nodup) {x : Spn} (hx : x ∈ l) : ∀ k, isB (beginB l x.id) k = (decide (k = x.id) && x.er) := by
  have key : ∀ (q : List Spn), (idsOf q).Nodup → ∀ m : KB, getB (q.foldl (fun m s => if s.id = x.id then putB m x.id s.er else m) m) = fun k => if k = x.id then (match q.find? (fun s => decide (s.id = x.id)) with | some s => some s.er | none => getB m k) else getB m k := by
    intro q
    induction q with
    | nil => intro _ m; funext k; simp
    | cons s q ih =>
      intro hq m
      have hq' := List.nodup_cons.1 (show ((s :: q).map Spn.id).Nodup from hq)
      show getB (q.foldl _ _) = _
      rw [ih hq'.2]
      funext k
      rw [List.find?_cons]
      by_cases e : s.id = x.id
      · have hno : q.find? (fun s => decide (s.id = x.id)) = none := by
          rw [List.find?_eq_none]
          intro y hy
          simp only [decide_eq_true_eq]
          exact fun e2 => hq'.1 (by rw [e, ← e2]; exact List.mem_map_of_mem hy)
        simp only [hno, e, decide_true, if_true, ite_self]
        rw [getB_put]
        by_cases e3 : k = x.id
        · rw [if_pos e3, if_pos e3.symm]
        · rw [if_neg e3, if_neg fun h => e3 h.symm]
      · simp only [e, decide_false, if_false]
  intro k
  unfold isB beginB
  rw [key l hn []]
  have hf : l.find? (fun s => decide (s.id = x.id)) = some x := by
    cases hf : l.find? (fun s => decide (s.id = x.id)) with
    | none =>
      rw [List.find?_eq_none] at hf
      exact absurd (by simp) (hf x hx)
    | some y =>
      have h1 := List.find?_some hf
      simp only [decide_eq_true_eq] at h1
      rw [id_uni hn (List.mem_of_find?_eq_some hf) hx h1]
  rw [hf]
  by_cases e : k = x.id <;> simp [e, getB]
/-- What the program's queue has visited at its end is what the document's rounds have reached. -/
theorem caus_law {l : List Spn} (hn : (idsOf l).Nodup) {x : Spn} (hx : x ∈ l) (he : x.er = true) (V : List Spn) (hV : V.Nodup) (hsub : ∀ s ∈ V, s ∈ l ∧ Rch l x s) (hroot : x ∈ V) (hcl : ∀ s ∈ V, ∀ c ∈ failL l s.id, c ∈ V) :
    srtI ((V.filter (orig l)).map Spn.id) = (causM l x.id).1 := by
  have h0 := beginB_is hn hx
  have hVR : ∀ s, Rch l x s → s ∈ V := fun s h => by
    induction h with
    | root => exact hroot
    | step h1 h2 ih => exact hcl _ ih _ h2
  have hR : ∀ s ∈ l, (isB (rndsB l l.length (beginB l x.id)) s.id = true ↔ s ∈ V) := fun s hs => by
    constructor
    · intro h
      obtain ⟨y, hy, e1, e2⟩ := rndsB_sound hn (x := x) _ (fun k hk => by
        rw [h0] at hk
        simp only [Bool.and_eq_true, decide_eq_true_eq] at hk
        exact ⟨x, hx, hk.1.symm, .root⟩) _ _ h
      rw [← id_uni hn hy hs e1]
      exact hVR y e2
    · intro h
      have h1 := (hsub s h).2
      have hc : clB l (rndsB l l.length (beginB l x.id)) := by
        rcases rndsB_cl l (beginB l x.id) (List.length_pos_of_mem (a := x) (List.mem_filter.2 ⟨hx, by rw [h0]; simp [he]⟩)) l.length with h | h
        · exact h
        · have := List.length_filter_le (fun s : Spn => isB (rndsB l l.length (beginB l x.id)) s.id) l
          unfold cntB at h
          omega
      have hm : ∀ n, isB (rndsB l n (beginB l x.id)) x.id = true := fun n => by
        induction n with
        | zero => show isB (beginB l x.id) x.id = true; rw [h0]; simp [he]
        | succ n ih => exact foldB_mono ih
      clear h hs
      induction h1 with
      | root => exact hm _
      | step h2 h3 ih =>
        obtain ⟨a1, a2, a3, a4⟩ := failL_mem.1 h3
        exact hc _ a1 a4 a3 (by rw [a2]; exact ih)
  unfold causM
  rw [if_pos (show x.id ∈ idsOf l from List.mem_map_of_mem hx)]
  refine (srtI_of ?_ ((srtI_sorted _).filter _)).symm
  have h1 : ((srtI (origL l)).filter (isB (rndsB l l.length (beginB l x.id)))).Perm ((origL l).filter (isB (rndsB l l.length (beginB l x.id)))) := (List.mergeSort_perm _ _).filter _
  refine h1.trans ?_
  unfold origL
  rw [List.filter_map]
  refine List.Perm.map _ ?_
  have hl : l.Nodup := List.Pairwise.of_map Spn.id (fun a b h e => h (by rw [e])) hn
  refine (List.perm_ext_iff_of_nodup ((hl.filter _).filter _) (hV.filter _)).2 fun s => ?_
  rw [List.mem_filter, List.mem_filter, List.mem_filter]
  constructor
  · rintro ⟨⟨a1, a2⟩, a3⟩
    exact ⟨(hR s a1).1 a3, a2⟩
  · rintro ⟨a1, a2⟩
    exact ⟨⟨(hsub s a1).1, a2⟩, (hR s (hsub s a1).1).2 a1⟩
theorem caus_ok {l : List Spn} (hn : (idsOf l).Nodup) {x : Spn} (hx : x ∈ l) (he : x.er = false) : causM l x.id = ([], 0) := by
  have h0 := beginB_is hn hx
  unfold causM
  rw [if_pos (show x.id ∈ idsOf l from List.mem_map_of_mem hx)]
  have hz : ∀ n k, isB (rndsB l n (beginB l x.id)) k = false := fun n => by
    have hz0 : ∀ k, isB (beginB l x.id) k = false := fun k => by rw [h0]; simp [he]
    have key : ∀ (q : List Spn) (m : KB), (∀ k, isB m k = false) → ∀ k, isB (q.foldl stepB m) k = false := by
      intro q
      induction q with
      | nil => exact fun m h => h
      | cons c q ih =>
        intro m h
        refine ih (stepB m c) fun k => ?_
        unfold stepB
        rw [h c.pa]
        simp [h k]
    induction n with
    | zero => exact hz0
    | succ n ih => exact key l _ ih
  rw [List.filter_eq_nil_iff.2 fun a _ => by rw [hz]; simp]
end Go.Proofs.YthlimkmjobpjoaaGreat
namespace Go.Proofs.YthlimkmjobpjoaaGreat
open Go.RowKit Go.Exe
attribute [local irreducible] W AX Run RunD AStep AOp AOpX AStB AStH AStG Fits PCall GCall PostG Post Stop
/-! ### small functions -/
theorem failing1_c (i : Int) (s : Spn) : PCall Tryz.prog 97 [spT s, .c (.im (.pt [.flat (.int .i64 i)]))] (ft (.bool (failP i s))) := by
  have cb := blocks_c s
  unfold failP
  simp only [spT, spA, List.map] at cb ⊢
  cases h1 : (s.pa != i)
  · cases h2 : (s.kd != 5)
    · rw [h2] at cb
      refine PCall.intro (nt := 18) (rs := [.tmp 3]) Tryz.func97 rfl ⟨by kernel_rfl, by kernel_rfl, by kernel_rfl⟩ (by simp) ?_
      rintro ⟨P, w0, ok0, may, np, pblk⟩ rfl rfl
      repeat' (first | refine W.seq fun K hK => ?_ | refine W.block ?_ | ((first | refine wR ?_ | refine wD ?_ | refine W.skip ?_ | refine W.exit ?_ | refine W.ret (Post.ret ?_) | refine aP ?_ | refine aF ?_ | refine aC ?_ | refine aK ?_ | refine aZ ?_); simp only [go_sem, reduceCtorEq, h1, h2]) | refine wT ?_ | refine wF ?_ | refine wC (fun h => ?_) (fun h => ?_) | refine iK ?_ | refine aI2 ?_ | (refine hK _ ?_; clear hK K) | clear hK K)
    · rw [h2] at cb
      refine PCall.intro (nt := 18) (rs := [.tmp 3]) Tryz.func97 rfl ⟨by kernel_rfl, by kernel_rfl, by kernel_rfl⟩ (by simp) ?_
      rintro ⟨P, w0, ok0, may, np, pblk⟩ rfl rfl
      repeat' (first | refine W.seq fun K hK => ?_ | refine W.block ?_ | ((first | refine wR ?_ | refine wD ?_ | refine W.skip ?_ | refine W.exit ?_ | refine W.ret (Post.ret ?_) | refine aP ?_ | refine aF ?_ | refine aC ?_ | refine aK ?_ | refine aZ ?_); simp only [go_sem, reduceCtorEq, h1, h2]) | refine wT ?_ | refine wF ?_ | refine wC (fun h => ?_) (fun h => ?_) | refine iK ?_ | refine aI2 ?_ | (refine hK _ ?_; clear hK K) | clear hK K)
  · skip
    refine PCall.intro (nt := 18) (rs := [.tmp 3]) Tryz.func97 rfl ⟨by kernel_rfl, by kernel_rfl, by kernel_rfl⟩ (by simp) ?_
    rintro ⟨P, w0, ok0, may, np, pblk⟩ rfl rfl
    repeat' (first | refine W.seq fun K hK => ?_ | refine W.block ?_ | ((first | refine wR ?_ | refine wD ?_ | refine W.skip ?_ | refine W.exit ?_ | refine W.ret (Post.ret ?_) | refine aP ?_ | refine aF ?_ | refine aC ?_ | refine aK ?_ | refine aZ ?_); simp only [go_sem, reduceCtorEq, h1]) | refine wT ?_ | refine wF ?_ | refine wC (fun h => ?_) (fun h => ?_) | refine iK ?_ | refine aI2 ?_ | (refine hK _ ?_; clear hK K) | clear hK K)
theorem failing_c (l : List Spn) (i : Int) : PCall Tryz.prog 59 [spsT l, ft (.int .i64 i)] (spsT (failL l i)) := by
  refine PCall.intro (nt := 9) (rs := [.tmp 4]) Tryz.func59 rfl ⟨by kernel_rfl, by kernel_rfl, by kernel_rfl⟩ (by simp) ?_
  rintro ⟨P, w0, ok0, may, np, pblk⟩ rfl rfl
  repeat' (first | refine W.seq fun K hK => ?_ | refine W.block ?_ | ((first | refine wR ?_ | refine wD ?_ | refine W.skip ?_ | refine W.exit ?_ | refine W.ret (Post.ret ?_) | refine aP ?_ | refine aF ?_ | refine aC ?_ | refine aK ?_ | refine aZ ?_); simp only [go_sem, reduceCtorEq]) | refine wT ?_ | refine wF ?_ | refine wC (fun h => ?_) (fun h => ?_) | refine iK ?_ | refine aI2 ?_ | (refine hK _ ?_; clear hK K) | clear hK K)
  refine AX.gcall [] rfl rfl (cloneSp_c l) (by simp only [go_sem, reduceCtorEq]) (by simp only [go_sem, reduceCtorEq]) rfl rfl (by simp only [go_sem, Obj.owns]) rfl (by simp only [go_sem, Obj.owns]) rfl rfl ?_
  simp only [go_sem, reduceCtorEq]
  repeat' (first | refine W.seq fun K hK => ?_ | refine W.block ?_ | ((first | refine wR ?_ | refine wD ?_ | refine W.skip ?_ | refine W.exit ?_ | refine W.ret (Post.ret ?_) | refine aP ?_ | refine aF ?_ | refine aC ?_ | refine aK ?_ | refine aZ ?_); simp only [go_sem, reduceCtorEq]) | refine wT ?_ | refine wF ?_ | refine wC (fun h => ?_) (fun h => ?_) | refine iK ?_ | refine aI2 ?_ | (refine hK _ ?_; clear hK K) | clear hK K)
  refine AX.gcall [3] rfl rfl (deleteFunc_c l 97 [.pt [.flat (.int .i64 i)]] (failP i) (fun x => failing1_c i x)) (by simp only [go_sem, reduceCtorEq]) (by simp only [go_sem, reduceCtorEq]) rfl rfl (by simp only [go_sem, Obj.owns]) rfl (by simp only [go_sem, Obj.owns]) rfl rfl ?_
  simp only [go_sem, reduceCtorEq]
  repeat' (first | refine W.seq fun K hK => ?_ | refine W.block ?_ | ((first | refine wR ?_ | refine wD ?_ | refine W.skip ?_ | refine W.exit ?_ | refine W.ret (Post.ret ?_) | refine aP ?_ | refine aF ?_ | refine aC ?_ | refine aK ?_ | refine aZ ?_); simp only [go_sem, reduceCtorEq, failL]) | refine wT ?_ | refine wF ?_ | refine wC (fun h => ?_) (fun h => ?_) | refine iK ?_ | refine aI2 ?_ | (refine hK _ ?_; clear hK K) | clear hK K)
theorem origin_c (l : List Spn) (s : Spn) : PCall Tryz.prog 48 [spsT l, spT s] (ft (.bool (orig l s))) := by
  have cf := failing_c l s.id
  unfold orig
  have hl : (((failL l s.id).length : Int) == 0) = (failL l s.id).isEmpty := by
    cases failL l s.id with
    | nil => rfl
    | cons x r => simp only [List.length_cons, List.isEmpty_cons, beq_eq_false_iff_ne]; omega
  simp only [spT, spA, List.map]
  cases h : s.er
  · skip
    refine PCall.intro (nt := 15) (rs := [.tmp 4]) Tryz.func48 rfl ⟨by kernel_rfl, by kernel_rfl, by kernel_rfl⟩ (by simp) ?_
    rintro ⟨P, w0, ok0, may, np, pblk⟩ rfl rfl
    repeat' (first | refine W.seq fun K hK => ?_ | refine W.block ?_ | ((first | refine wR ?_ | refine wD ?_ | refine W.skip ?_ | refine W.exit ?_ | refine W.ret (Post.ret ?_) | refine aP ?_ | refine aF ?_ | refine aC ?_ | refine aK ?_ | refine aZ ?_); simp only [go_sem, reduceCtorEq, h]) | refine wT ?_ | refine wF ?_ | refine wC (fun h => ?_) (fun h => ?_) | refine iK ?_ | refine aI2 ?_ | (refine hK _ ?_; clear hK K) | clear hK K)
  · skip
    refine PCall.intro (nt := 15) (rs := [.tmp 4]) Tryz.func48 rfl ⟨by kernel_rfl, by kernel_rfl, by kernel_rfl⟩ (by simp) ?_
    rintro ⟨P, w0, ok0, may, np, pblk⟩ rfl rfl
    repeat' (first | refine W.seq fun K hK => ?_ | refine W.block ?_ | ((first | refine wR ?_ | refine wD ?_ | refine W.skip ?_ | refine W.exit ?_ | refine W.ret (Post.ret ?_) | refine aP ?_ | refine aF ?_ | refine aC ?_ | refine aK ?_ | refine aZ ?_); simp only [go_sem, reduceCtorEq, h, List.length_map, hl]) | refine wT ?_ | refine wF ?_ | refine wC (fun h => ?_) (fun h => ?_) | refine iK ?_ | refine aI2 ?_ | (refine hK _ ?_; clear hK K) | clear hK K)
theorem causes1_c (i : Int) (s : Spn) : PCall Tryz.prog 58 [spT s, .c (.im (.pt [.flat (.int .i64 i)]))] (ft (.bool (s.id == i))) := by
  simp only [spT, spA, List.map]
  refine PCall.intro (nt := 8) (rs := [.tmp 3]) Tryz.func58 rfl ⟨by kernel_rfl, by kernel_rfl, by kernel_rfl⟩ (by simp) ?_
  rintro ⟨P, w0, ok0, may, np, pblk⟩ rfl rfl
  repeat' (first | refine W.seq fun K hK => ?_ | refine W.block ?_ | ((first | refine wR ?_ | refine wD ?_ | refine W.skip ?_ | refine W.exit ?_ | refine W.ret (Post.ret ?_) | refine aP ?_ | refine aF ?_ | refine aC ?_ | refine aK ?_ | refine aZ ?_); simp only [go_sem, reduceCtorEq]) | refine wT ?_ | refine wF ?_ | refine wC (fun h => ?_) (fun h => ?_) | refine iK ?_ | refine aI2 ?_ | (refine hK _ ?_; clear hK K) | clear hK K)
theorem number_c (b : Bool) : PCall Tryz.prog 47 [ft (.bool b)] (ft (.int .i64 (if b then 1 else 0))) := by
  cases b
  · skip
    refine PCall.intro (nt := 4) (rs := [.tmp 2]) Tryz.func47 rfl ⟨by kernel_rfl, by kernel_rfl, by kernel_rfl⟩ (by simp) ?_
    rintro ⟨P, w0, ok0, may, np, pblk⟩ rfl rfl
    repeat' (first | refine W.seq fun K hK => ?_ | refine W.block ?_ | ((first | refine wR ?_ | refine wD ?_ | refine W.skip ?_ | refine W.exit ?_ | refine W.ret (Post.ret ?_) | refine aP ?_ | refine aF ?_ | refine aC ?_ | refine aK ?_ | refine aZ ?_); simp only [go_sem, reduceCtorEq]) | refine wT ?_ | refine wF ?_ | refine wC (fun h => ?_) (fun h => ?_) | refine iK ?_ | refine aI2 ?_ | (refine hK _ ?_; clear hK K) | clear hK K)
  · skip
    refine PCall.intro (nt := 4) (rs := [.tmp 2]) Tryz.func47 rfl ⟨by kernel_rfl, by kernel_rfl, by kernel_rfl⟩ (by simp) ?_
    rintro ⟨P, w0, ok0, may, np, pblk⟩ rfl rfl
    repeat' (first | refine W.seq fun K hK => ?_ | refine W.block ?_ | ((first | refine wR ?_ | refine wD ?_ | refine W.skip ?_ | refine W.exit ?_ | refine W.ret (Post.ret ?_) | refine aP ?_ | refine aF ?_ | refine aC ?_ | refine aK ?_ | refine aZ ?_); simp only [go_sem, reduceCtorEq]) | refine wT ?_ | refine wF ?_ | refine wC (fun h => ?_) (fun h => ?_) | refine iK ?_ | refine aI2 ?_ | (refine hK _ ?_; clear hK K) | clear hK K)
theorem empty_c (e : En) : PCall Tryz.prog 60 [enT e] (ft (.bool e.emp)) := by
  unfold En.emp
  simp only [enT, enA, List.map]
  cases h1 : (e.ti == 0)
  · skip
    refine PCall.intro (nt := 21) (rs := [.tmp 2]) Tryz.func60 rfl ⟨by kernel_rfl, by kernel_rfl, by kernel_rfl⟩ (by simp) ?_
    rintro ⟨P, w0, ok0, may, np, pblk⟩ rfl rfl
    repeat' (first | refine W.seq fun K hK => ?_ | refine W.block ?_ | ((first | refine wR ?_ | refine wD ?_ | refine W.skip ?_ | refine W.exit ?_ | refine W.ret (Post.ret ?_) | refine aP ?_ | refine aF ?_ | refine aC ?_ | refine aK ?_ | refine aZ ?_); simp only [go_sem, reduceCtorEq, h1]) | refine wT ?_ | refine wF ?_ | refine wC (fun h => ?_) (fun h => ?_) | refine iK ?_ | refine aI2 ?_ | (refine hK _ ?_; clear hK K) | clear hK K)
  · cases h2 : (e.sp == 0)
    · skip
      refine PCall.intro (nt := 21) (rs := [.tmp 2]) Tryz.func60 rfl ⟨by kernel_rfl, by kernel_rfl, by kernel_rfl⟩ (by simp) ?_
      rintro ⟨P, w0, ok0, may, np, pblk⟩ rfl rfl
      repeat' (first | refine W.seq fun K hK => ?_ | refine W.block ?_ | ((first | refine wR ?_ | refine wD ?_ | refine W.skip ?_ | refine W.exit ?_ | refine W.ret (Post.ret ?_) | refine aP ?_ | refine aF ?_ | refine aC ?_ | refine aK ?_ | refine aZ ?_); simp only [go_sem, reduceCtorEq, h1, h2]) | refine wT ?_ | refine wF ?_ | refine wC (fun h => ?_) (fun h => ?_) | refine iK ?_ | refine aI2 ?_ | (refine hK _ ?_; clear hK K) | clear hK K)
    · cases h3 : (e.er == 0)
      · skip
        refine PCall.intro (nt := 21) (rs := [.tmp 2]) Tryz.func60 rfl ⟨by kernel_rfl, by kernel_rfl, by kernel_rfl⟩ (by simp) ?_
        rintro ⟨P, w0, ok0, may, np, pblk⟩ rfl rfl
        repeat' (first | refine W.seq fun K hK => ?_ | refine W.block ?_ | ((first | refine wR ?_ | refine wD ?_ | refine W.skip ?_ | refine W.exit ?_ | refine W.ret (Post.ret ?_) | refine aP ?_ | refine aF ?_ | refine aC ?_ | refine aK ?_ | refine aZ ?_); simp only [go_sem, reduceCtorEq, h1, h2, h3]) | refine wT ?_ | refine wF ?_ | refine wC (fun h => ?_) (fun h => ?_) | refine iK ?_ | refine aI2 ?_ | (refine hK _ ?_; clear hK K) | clear hK K)
      · skip
        refine PCall.intro (nt := 21) (rs := [.tmp 2]) Tryz.func60 rfl ⟨by kernel_rfl, by kernel_rfl, by kernel_rfl⟩ (by simp) ?_
        rintro ⟨P, w0, ok0, may, np, pblk⟩ rfl rfl
        repeat' (first | refine W.seq fun K hK => ?_ | refine W.block ?_ | ((first | refine wR ?_ | refine wD ?_ | refine W.skip ?_ | refine W.exit ?_ | refine W.ret (Post.ret ?_) | refine aP ?_ | refine aF ?_ | refine aC ?_ | refine aK ?_ | refine aZ ?_); simp only [go_sem, reduceCtorEq, h1, h2, h3]) | refine wT ?_ | refine wF ?_ | refine wC (fun h => ?_) (fun h => ?_) | refine iK ?_ | refine aI2 ?_ | (refine hK _ ?_; clear hK K) | clear hK K)
theorem zero_c (e : En) : PCall Tryz.prog 64 [enT e] (ft (.bool e.emp)) := by
  unfold En.emp
  simp only [enT, enA, List.map]
  cases h1 : (e.ti == 0)
  · skip
    refine PCall.intro (nt := 21) (rs := [.tmp 2]) Tryz.func64 rfl ⟨by kernel_rfl, by kernel_rfl, by kernel_rfl⟩ (by simp) ?_
    rintro ⟨P, w0, ok0, may, np, pblk⟩ rfl rfl
    repeat' (first | refine W.seq fun K hK => ?_ | refine W.block ?_ | ((first | refine wR ?_ | refine wD ?_ | refine W.skip ?_ | refine W.exit ?_ | refine W.ret (Post.ret ?_) | refine aP ?_ | refine aF ?_ | refine aC ?_ | refine aK ?_ | refine aZ ?_); simp only [go_sem, reduceCtorEq, h1]) | refine wT ?_ | refine wF ?_ | refine wC (fun h => ?_) (fun h => ?_) | refine iK ?_ | refine aI2 ?_ | (refine hK _ ?_; clear hK K) | clear hK K)
  · cases h2 : (e.sp == 0)
    · skip
      refine PCall.intro (nt := 21) (rs := [.tmp 2]) Tryz.func64 rfl ⟨by kernel_rfl, by kernel_rfl, by kernel_rfl⟩ (by simp) ?_
      rintro ⟨P, w0, ok0, may, np, pblk⟩ rfl rfl
      repeat' (first | refine W.seq fun K hK => ?_ | refine W.block ?_ | ((first | refine wR ?_ | refine wD ?_ | refine W.skip ?_ | refine W.exit ?_ | refine W.ret (Post.ret ?_) | refine aP ?_ | refine aF ?_ | refine aC ?_ | refine aK ?_ | refine aZ ?_); simp only [go_sem, reduceCtorEq, h1, h2]) | refine wT ?_ | refine wF ?_ | refine wC (fun h => ?_) (fun h => ?_) | refine iK ?_ | refine aI2 ?_ | (refine hK _ ?_; clear hK K) | clear hK K)
    · cases h3 : (e.er == 0)
      · skip
        refine PCall.intro (nt := 21) (rs := [.tmp 2]) Tryz.func64 rfl ⟨by kernel_rfl, by kernel_rfl, by kernel_rfl⟩ (by simp) ?_
        rintro ⟨P, w0, ok0, may, np, pblk⟩ rfl rfl
        repeat' (first | refine W.seq fun K hK => ?_ | refine W.block ?_ | ((first | refine wR ?_ | refine wD ?_ | refine W.skip ?_ | refine W.exit ?_ | refine W.ret (Post.ret ?_) | refine aP ?_ | refine aF ?_ | refine aC ?_ | refine aK ?_ | refine aZ ?_); simp only [go_sem, reduceCtorEq, h1, h2, h3]) | refine wT ?_ | refine wF ?_ | refine wC (fun h => ?_) (fun h => ?_) | refine iK ?_ | refine aI2 ?_ | (refine hK _ ?_; clear hK K) | clear hK K)
      · skip
        refine PCall.intro (nt := 21) (rs := [.tmp 2]) Tryz.func64 rfl ⟨by kernel_rfl, by kernel_rfl, by kernel_rfl⟩ (by simp) ?_
        rintro ⟨P, w0, ok0, may, np, pblk⟩ rfl rfl
        repeat' (first | refine W.seq fun K hK => ?_ | refine W.block ?_ | ((first | refine wR ?_ | refine wD ?_ | refine W.skip ?_ | refine W.exit ?_ | refine W.ret (Post.ret ?_) | refine aP ?_ | refine aF ?_ | refine aC ?_ | refine aK ?_ | refine aZ ?_); simp only [go_sem, reduceCtorEq, h1, h2, h3]) | refine wT ?_ | refine wF ?_ | refine wC (fun h => ?_) (fun h => ?_) | refine iK ?_ | refine aI2 ?_ | (refine hK _ ?_; clear hK K) | clear hK K)
theorem plus_c (x o : En) (n : Int) : PCall Tryz.prog 83 [enT x, enT o, ft (.int .i64 n)] (enT (plW x o.nm n)) := by
  simp only [enT, enA, List.map, plW, wAdd, En.nm]
  refine PCall.intro (nt := 40) (rs := [.cell 6 65]) Tryz.func83 rfl ⟨by kernel_rfl, by kernel_rfl, by kernel_rfl⟩ (by simp) ?_
  rintro ⟨P, w0, ok0, may, np, pblk⟩ rfl rfl
  repeat' (first | refine W.seq fun K hK => ?_ | refine W.block ?_ | ((first | refine wR ?_ | refine wD ?_ | refine W.skip ?_ | refine W.exit ?_ | refine W.ret (Post.ret ?_) | refine aP ?_ | refine aF ?_ | refine aC ?_ | refine aK ?_ | refine aZ ?_); simp only [go_sem, reduceCtorEq]) | refine wT ?_ | refine wF ?_ | refine wC (fun h => ?_) (fun h => ?_) | refine iK ?_ | refine aI2 ?_ | (refine hK _ ?_; clear hK K) | clear hK K)
theorem word_c (a b : ByteArray) : PCall Tryz.prog 63 [ft (.string a), ft (.string b)] (ft (.int .i64 (cmpB a b))) := by
  unfold cmpB
  cases h1 : Op.bytesLess a.toList b.toList
  · cases h2 : (a.toList == b.toList)
    · skip
      refine PCall.intro (nt := 11) (rs := [.tmp 4]) Tryz.func63 rfl ⟨by kernel_rfl, by kernel_rfl, by kernel_rfl⟩ (by simp) ?_
      rintro ⟨P, w0, ok0, may, np, pblk⟩ rfl rfl
      repeat' (first | refine W.seq fun K hK => ?_ | refine W.block ?_ | ((first | refine wR ?_ | refine wD ?_ | refine W.skip ?_ | refine W.exit ?_ | refine W.ret (Post.ret ?_) | refine aP ?_ | refine aF ?_ | refine aC ?_ | refine aK ?_ | refine aZ ?_); simp only [go_sem, reduceCtorEq, h1, h2]) | refine wT ?_ | refine wF ?_ | refine wC (fun h => ?_) (fun h => ?_) | refine iK ?_ | refine aI2 ?_ | (refine hK _ ?_; clear hK K) | clear hK K)
    · skip
      refine PCall.intro (nt := 11) (rs := [.tmp 4]) Tryz.func63 rfl ⟨by kernel_rfl, by kernel_rfl, by kernel_rfl⟩ (by simp) ?_
      rintro ⟨P, w0, ok0, may, np, pblk⟩ rfl rfl
      repeat' (first | refine W.seq fun K hK => ?_ | refine W.block ?_ | ((first | refine wR ?_ | refine wD ?_ | refine W.skip ?_ | refine W.exit ?_ | refine W.ret (Post.ret ?_) | refine aP ?_ | refine aF ?_ | refine aC ?_ | refine aK ?_ | refine aZ ?_); simp only [go_sem, reduceCtorEq, h1, h2]) | refine wT ?_ | refine wF ?_ | refine wC (fun h => ?_) (fun h => ?_) | refine iK ?_ | refine aI2 ?_ | (refine hK _ ?_; clear hK K) | clear hK K)
  · skip
    refine PCall.intro (nt := 11) (rs := [.tmp 4]) Tryz.func63 rfl ⟨by kernel_rfl, by kernel_rfl, by kernel_rfl⟩ (by simp) ?_
    rintro ⟨P, w0, ok0, may, np, pblk⟩ rfl rfl
    repeat' (first | refine W.seq fun K hK => ?_ | refine W.block ?_ | ((first | refine wR ?_ | refine wD ?_ | refine W.skip ?_ | refine W.exit ?_ | refine W.ret (Post.ret ?_) | refine aP ?_ | refine aF ?_ | refine aC ?_ | refine aK ?_ | refine aZ ?_); simp only [go_sem, reduceCtorEq, h1]) | refine wT ?_ | refine wF ?_ | refine wC (fun h => ?_) (fun h => ?_) | refine iK ?_ | refine aI2 ?_ | (refine hK _ ?_; clear hK K) | clear hK K)
theorem compareKeys_c (a b : Ky) : PCall Tryz.prog 27 [kyT a, kyT b] (ft (.int .i64 (cmpKy a b))) := by
  have c1 := cmpCompare_c
  have cOr := fun l : List Int => cmpOr_c l
  unfold cmpKy
  simp only [kyT, kyA, List.map]
  have h3 := cOr [cmpB a.sv b.sv, cmpB a.ve b.ve, cmpB a.op b.op]
  simp only [List.map, iA] at h3
  clear cOr
  refine PCall.intro (nt := 22) (rs := [.tmp 4]) Tryz.func27 rfl ⟨by kernel_rfl, by kernel_rfl, by kernel_rfl⟩ (by simp) ?_
  rintro ⟨P, w0, ok0, may, np, pblk⟩ rfl rfl
  repeat' (first | refine W.seq fun K hK => ?_ | refine W.block ?_ | ((first | refine wR ?_ | refine wD ?_ | refine W.skip ?_ | refine W.exit ?_ | refine W.ret (Post.ret ?_) | refine aP ?_ | refine aF ?_ | refine aC ?_ | refine aK ?_ | refine aZ ?_); simp only [go_sem, reduceCtorEq]) | refine wT ?_ | refine wF ?_ | refine wC (fun h => ?_) (fun h => ?_) | refine iK ?_ | refine aI2 ?_ | (refine hK _ ?_; clear hK K) | clear hK K)
theorem compareM_c (a b : Ky) : PCall Tryz.prog 28 [kyT a, kyT b] (ft (.int .i64 (cmpKy a b))) := by
  have c1 := word_c
  unfold cmpKy
  simp only [kyT, kyA, List.map, orL]
  by_cases h1 : cmpB a.sv b.sv = 0
  · rw [if_pos h1]
    have e1 : (cmpB a.sv b.sv != 0) = false := by simp [h1]
    by_cases h2 : cmpB a.ve b.ve = 0
    · rw [if_pos h2]
      have e2 : (cmpB a.ve b.ve != 0) = false := by simp [h2]
      have e3 : (if cmpB a.op b.op = 0 then (0 : Int) else cmpB a.op b.op) = cmpB a.op b.op := by split <;> simp [*]
      rw [e3]
      refine PCall.intro (nt := 28) (rs := [.tmp 4]) Tryz.func28 rfl ⟨by kernel_rfl, by kernel_rfl, by kernel_rfl⟩ (by simp) ?_
      rintro ⟨P, w0, ok0, may, np, pblk⟩ rfl rfl
      repeat' (first | refine W.seq fun K hK => ?_ | refine W.block ?_ | ((first | refine wR ?_ | refine wD ?_ | refine W.skip ?_ | refine W.exit ?_ | refine W.ret (Post.ret ?_) | refine aP ?_ | refine aF ?_ | refine aC ?_ | refine aK ?_ | refine aZ ?_); simp only [go_sem, reduceCtorEq, e1, e2]) | refine wT ?_ | refine wF ?_ | refine wC (fun h => ?_) (fun h => ?_) | refine iK ?_ | refine aI2 ?_ | (refine hK _ ?_; clear hK K) | clear hK K)
    · rw [if_neg h2]
      have e2 : (cmpB a.ve b.ve != 0) = true := by simp [h2]
      refine PCall.intro (nt := 28) (rs := [.tmp 4]) Tryz.func28 rfl ⟨by kernel_rfl, by kernel_rfl, by kernel_rfl⟩ (by simp) ?_
      rintro ⟨P, w0, ok0, may, np, pblk⟩ rfl rfl
      repeat' (first | refine W.seq fun K hK => ?_ | refine W.block ?_ | ((first | refine wR ?_ | refine wD ?_ | refine W.skip ?_ | refine W.exit ?_ | refine W.ret (Post.ret ?_) | refine aP ?_ | refine aF ?_ | refine aC ?_ | refine aK ?_ | refine aZ ?_); simp only [go_sem, reduceCtorEq, e1, e2]) | refine wT ?_ | refine wF ?_ | refine wC (fun h => ?_) (fun h => ?_) | refine iK ?_ | refine aI2 ?_ | (refine hK _ ?_; clear hK K) | clear hK K)
  · rw [if_neg h1]
    have e1 : (cmpB a.sv b.sv != 0) = true := by simp [h1]
    refine PCall.intro (nt := 28) (rs := [.tmp 4]) Tryz.func28 rfl ⟨by kernel_rfl, by kernel_rfl, by kernel_rfl⟩ (by simp) ?_
    rintro ⟨P, w0, ok0, may, np, pblk⟩ rfl rfl
    repeat' (first | refine W.seq fun K hK => ?_ | refine W.block ?_ | ((first | refine wR ?_ | refine wD ?_ | refine W.skip ?_ | refine W.exit ?_ | refine W.ret (Post.ret ?_) | refine aP ?_ | refine aF ?_ | refine aC ?_ | refine aK ?_ | refine aZ ?_); simp only [go_sem, reduceCtorEq, e1]) | refine wT ?_ | refine wF ?_ | refine wC (fun h => ?_) (fun h => ?_) | refine iK ?_ | refine aI2 ?_ | (refine hK _ ?_; clear hK K) | clear hK K)
theorem table1_c (x y : En) : PCall Tryz.prog 84 [enT x, enT y] (ft (.int .i64 (cmpE x y))) := by
  have c1 := compareKeys_c x.k y.k
  unfold cmpE
  simp only [kyT, enT, kyA, enA, List.map] at c1 ⊢
  refine PCall.intro (nt := 10) (rs := [.tmp 4]) Tryz.func84 rfl ⟨by kernel_rfl, by kernel_rfl, by kernel_rfl⟩ (by simp) ?_
  rintro ⟨P, w0, ok0, may, np, pblk⟩ rfl rfl
  repeat' (first | refine W.seq fun K hK => ?_ | refine W.block ?_ | ((first | refine wR ?_ | refine wD ?_ | refine W.skip ?_ | refine W.exit ?_ | refine W.ret (Post.ret ?_) | refine aP ?_ | refine aF ?_ | refine aC ?_ | refine aK ?_ | refine aZ ?_); simp only [go_sem, reduceCtorEq]) | refine wT ?_ | refine wF ?_ | refine wC (fun h => ?_) (fun h => ?_) | refine iK ?_ | refine aI2 ?_ | (refine hK _ ?_; clear hK K) | clear hK K)
end Go.Proofs.YthlimkmjobpjoaaGreat
namespace Go.Proofs.YthlimkmjobpjoaaGreat
open Go.RowKit Go.Exe
/-! ### the ids of the origins -/
attribute [local irreducible] W AX Run RunD AStep AOp AOpX AStB AStH AStG Fits PCall GCall PostG Post Stop
end Go.Proofs.YthlimkmjobpjoaaGreat
namespace Go.Proofs.YthlimkmjobpjoaaGreat
open Go.RowKit Go.Exe
/-! ### the queue of Causes -/
structure CB (l : List Spn) (x : Spn) (D todo : List Spn) : Prop where
  nd : ((D ++ todo).map Spn.id).Nodup
  sub : ∀ s ∈ D ++ todo, s ∈ l ∧ Rch l x s
  rt : x ∈ D ++ todo
  cl : ∀ s ∈ D, ∀ c ∈ failL l s.id, c ∈ D ++ todo
abbrev outD (l D : List Spn) : List Int := (D.filter (orig l)).map Spn.id
abbrev seenD (D todo : List Spn) : List Int := (D ++ todo).map Spn.id
theorem CB.init {l : List Spn} {x : Spn} (hx : x ∈ l) : CB l x [] [x] :=
  ⟨by simp, fun s hs => by simp at hs; subst hs; exact ⟨hx, .root⟩, by simp, fun s hs => by simp at hs⟩
theorem CB.push {l : List Spn} {x : Spn} {D todo : List Spn} (h : CB l x D todo) {s c : Spn} (hs : s ∈ D ++ todo) (hc : c ∈ failL l s.id) (hn : c.id ∉ seenD D todo) : CB l x D (todo ++ [c]) := by
  refine ⟨?_, fun y hy => ?_, ?_, fun y hy d hd => ?_⟩
  · rw [← List.append_assoc, List.map_append]
    refine List.nodup_append.2 ⟨h.nd, by simp, fun a ha b hb e => hn ?_⟩
    simp at hb
    rw [← hb, ← e]
    exact ha
  · rw [← List.append_assoc] at hy
    rcases List.mem_append.1 hy with hy | hy
    · exact h.sub y hy
    · simp at hy
      subst hy
      exact ⟨(failL_mem.1 hc).1, .step (h.sub s hs).2 hc⟩
  · rw [← List.append_assoc]
    exact List.mem_append.2 (.inl h.rt)
  · rw [← List.append_assoc]
    exact List.mem_append.2 (.inl (h.cl y hy d hd))
theorem CB.mem {l : List Spn} {x : Spn} {D todo : List Spn} (h : CB l x D todo) (hl : (idsOf l).Nodup) {c : Spn} (hc : c ∈ l) (hn : c.id ∈ seenD D todo) : c ∈ D ++ todo := by
  obtain ⟨y, hy, e⟩ := List.mem_map.1 hn
  rw [← id_uni hl (h.sub y hy).1 hc e]
  exact hy
theorem CB.pop {l : List Spn} {x s : Spn} {D r : List Spn} (h : CB l x D (s :: r)) (hc : ∀ c ∈ failL l s.id, c ∈ D ++ s :: r) : CB l x (D ++ [s]) r := by
  have e : D ++ [s] ++ r = D ++ s :: r := by simp
  refine ⟨by rw [e]; exact h.nd, by rw [e]; exact h.sub, by rw [e]; exact h.rt, fun y hy c hcc => ?_⟩
  rw [e]
  rcases List.mem_append.1 hy with hy | hy
  · exact h.cl y hy c hcc
  · simp at hy
    subst hy
    exact hc c hcc
theorem CB.len {l : List Spn} {x : Spn} {D todo : List Spn} (h : CB l x D todo) : D.length + todo.length ≤ l.length := by
  have h1 : (D ++ todo).Nodup := List.Pairwise.of_map Spn.id (fun a b h e => h (by rw [e])) h.nd
  rw [← List.length_append]
  exact h1.length_le_of_subset fun y hy => (h.sub y hy).1
theorem CB.fin {l : List Spn} {x : Spn} {D : List Spn} (h : CB l x D []) (hl : (idsOf l).Nodup) (hx : x ∈ l) (he : x.er = true) : srtI (outD l D) = (causM l x.id).1 := by
  have e : D ++ [] = D := List.append_nil D
  refine caus_law hl hx he D ?_ (fun s hs => h.sub s (by rw [e]; exact hs)) (by rw [← e]; exact h.rt) (fun s hs c hc => by rw [← e]; exact h.cl s hs c hc)
  have := h.nd
  rw [e] at this
  exact List.Pairwise.of_map Spn.id (fun a b h e => h (by rw [e])) this
theorem outD_snoc (l D : List Spn) (s : Spn) : outD l (D ++ [s]) = if orig l s then outD l D ++ [s.id] else outD l D := by
  unfold outD
  rw [List.filter_append, List.map_append]
  cases h : orig l s <;> simp [h]
/-- The queue as the machine holds it. -/
inductive Td where
  | fix (x : Spn)
  | vw (pre : List (List AV)) (todo : List Spn)
  | emp
def Td.list : Td → List Spn
  | .fix x => [x]
  | .vw _ t => t
  | .emp => []
def Td.c : Td → Cell
  | .fix _ => .ref 2
  | .vw pre t => .vw 2 14 pre.length t.length
  | .emp => .im (.sl 42 [])
def Td.h : Td → List (Nat × Exe.Obj)
  | .fix x => [(2, .fix 42 [spA x])]
  | .vw pre t => [(2, .row 42 (imR (pre ++ t.map spA)))]
  | .emp => []
def Td.ok (D : List Spn) : Td → Prop
  | .vw pre t => pre.length ≤ D.length
  | _ => True
abbrev cauT (r : List Int × Int) : TV := .t [(false, [.im (.sl 3 (r.1.map iA))]), (false, [fl (.int .i64 r.2)])]
theorem cauP {f : Nat} {args : List TV} {e : Int} (h : PCall Tryz.prog f args (.t [(false, [fl (.slice none 0 0)]), (false, [fl (.int .i64 e)])])) : PCall Tryz.prog f args (cauT ([], e)) :=
  PCall.conv (args' := args) h (Al.refl (fun _ => TLe.rfl) _) (TLe.t (Al.cons ⟨rfl, Al.cons CLe.nil Al.nil⟩ (Al.cons ⟨rfl, Al.cons CLe.rfl Al.nil⟩ Al.nil)))
theorem idxN_none {l : List Spn} {i : Int} (h : i ∉ idsOf l) : idxN (fun s => s.id == i) l = -1 := by
  have : l.findIdx? (fun s => s.id == i) = none := by
    rw [List.findIdx?_eq_none_iff]
    intro x hx
    simp only [beq_eq_false_iff_ne]
    exact fun e => h (e ▸ List.mem_map_of_mem hx)
  simp [idxN, this]
theorem idxN_some {l : List Spn} {i : Int} (h : i ∈ idsOf l) : ∃ j x, l[j]? = some x ∧ x.id = i ∧ idxN (fun s => s.id == i) l = (j : Nat) := by
  cases hf : l.findIdx? (fun s => s.id == i) with
  | none =>
    rw [List.findIdx?_eq_none_iff] at hf
    obtain ⟨x, hx, e⟩ := List.mem_map.1 h
    have := hf x hx
    simp [e] at this
  | some j =>
    obtain ⟨hil, hpi, _⟩ := List.findIdx?_eq_some_iff_getElem.1 hf
    exact ⟨j, l[j], List.getElem?_eq_getElem hil, by simpa using hpi, by simp [idxN, hf]⟩
@[go_sem] theorem mget_nil (k : Value) : mget k [] = none := rfl
@[go_sem] theorem mput_nil (k : Value) (y : Bool × List Cell) : mput k y [] = [(k, y)] := rfl
attribute [local irreducible] W AX Run RunD AStep AOp AOpX AStB AStH AStG Fits PCall GCall PostG Post Stop
theorem causes_c (c56 : SortI Tryz.prog 56) (l : List Spn) (i : Int) (hn : (idsOf l).Nodup) (hI : ∀ s ∈ l, I64 s.id) : PCall Tryz.prog 24 [spsT l, ft (.int .i64 i)] (cauT (causM l i)) := by
  have ci := indexFunc_c l 58 [.pt [.flat (.int .i64 i)]] (fun s => s.id == i) (fun x => causes1_c i x)
  by_cases hin : i ∈ idsOf l
  · obtain ⟨j, x, hj, hxi, hidx⟩ := idxN_some hin
    rw [hidx] at ci
    obtain ⟨hjl, _⟩ := List.getElem?_eq_some_iff.1 hj
    have hx := List.mem_of_getElem? hj
    subst hxi
    have q0 : decide (((j : Nat) : Int) < 0) = false := by simp
    have q1 : decide (j < l.length) = true := by simp; omega
    cases her : x.er with
    | false =>
      rw [caus_ok hn hx her]
      refine cauP ?_
      refine PCall.intro (nt := 77) (rs := [.tmp 4, .tmp 5]) Tryz.func24 rfl ⟨by kernel_rfl, by kernel_rfl, by kernel_rfl⟩ (by simp) ?_
      rintro ⟨P, w0, ok0, may, np, pblk⟩ rfl rfl
      repeat' (first | refine W.stop (id := 1) ?_ | refine W.seq fun K hK => ?_ | refine W.block ?_ | ((first | refine wR ?_ | refine wD ?_ | refine W.skip ?_ | refine W.exit ?_ | refine W.ret (Post.ret ?_) | refine aP ?_ | refine aF ?_ | refine aIn ?_ | refine aL ?_ | refine aU ?_ | refine aXl ?_ | refine aXi ?_ | refine aL ?_ | refine aU ?_ | refine aM ?_ | refine aN ?_ | refine aR ?_); simp only [go_sem, reduceCtorEq]) | refine wT ?_ | refine wF ?_ | refine wC (fun h => ?_) (fun h => ?_) | refine iK ?_ | refine aI2 ?_ | (refine hK _ ?_; clear hK K) | clear hK K)
      refine Stop.out ?_
      refine W.fits (s' := { t := [(0, spsT l), (3, .c (.ip [.flat (.int .i64 x.id)]))], h := [], nx := 3, ex := [], nt := 77 }) (Fits.seeP 3 0 rfl rfl rfl (Fits.fit [] [0, 3] 3 rfl rfl Fits.rfl)) ?_
      refine W.regE ?_
      refine ⟨rfl, OpE.ofAOp 900 (by simp [St.used]) ?_⟩
      simp only [go_sem]
      refine ⟨rfl, OpE.makeFnPs rfl rfl rfl ?_⟩
      simp only [go_sem]
      refine ⟨rfl, OpE.ofAOp 901 (by simp [St.used]) ?_⟩
      simp only [go_sem]
      refine aP ?_
      simp only [go_sem]
      refine ⟨rfl, OpE.ofAOp 902 (by simp [St.used]) ?_⟩
      simp only [go_sem]
      refine ⟨_, Fits.fit [] [0, 3, 6] 0 rfl rfl Fits.rfl, ?_⟩
      simp only [go_sem]
      repeat' (first | refine W.seq fun K hK => ?_ | refine W.block ?_ | ((first | refine wR ?_ | refine wD ?_ | refine W.skip ?_ | refine W.exit ?_ | refine W.ret (Post.ret ?_) | refine aP ?_ | refine aF ?_ | refine aIn ?_ | refine aL ?_ | refine aU (hnn := by simp only [go_sem, reduceCtorEq, List.getElem?_map, hj, spA, her, q0, q1, List.length_map]) ?_ | refine aXl ?_ | refine aXi ?_ | refine aL ?_ | refine aU (hnn := by simp only [go_sem, reduceCtorEq, List.getElem?_map, hj, spA, her, q0, q1, List.length_map]) ?_ | refine aM ?_ | refine aN ?_ | refine aR ?_); simp only [go_sem, reduceCtorEq, List.getElem?_map, hj, spA, her, q0, q1, List.length_map]) | refine wT ?_ | refine wF ?_ | refine wC (fun h => ?_) (fun h => ?_) | refine iK ?_ | refine aI2 ?_ | (refine hK _ ?_; clear hK K) | clear hK K)
    | true =>
      clear hidx hin
      have co := fun s => origin_c l s
      have cf := fun i => failing_c l i
      have hko : ∀ s ∈ l, KeyOk Tryz.prog 3 (.int .i64 s.id) := fun s hs => koI (hI s hs)
      have hkx := hko x hx
      have e9 : causM l x.id = ((causM l x.id).1, 0) := by unfold causM; rw [if_pos (show x.id ∈ idsOf l from List.mem_map_of_mem hx)]
      rw [e9]
      refine PCall.intro (nt := 77) (rs := [.tmp 4, .tmp 5]) Tryz.func24 rfl ⟨by kernel_rfl, by kernel_rfl, by kernel_rfl⟩ (by simp) ?_
      rintro ⟨P, w0, ok0, may, np, pblk⟩ rfl rfl
      refine W.lenB 0 rfl tE42 fun hl0 hl1 => ?_
      rw [List.length_map] at hl0 hl1
      rw [maxLen_is] at hl0
      have hw2 := w64s j (by omega)
      repeat' (first | refine W.stop (id := 1) ?_ | refine W.seq fun K hK => ?_ | refine W.block ?_ | ((first | refine wR ?_ | refine wD ?_ | refine W.skip ?_ | refine W.exit ?_ | refine W.ret (Post.ret ?_) | refine aP ?_ | refine aF ?_ | refine aIn ?_ | refine aL ?_ | refine aU ?_ | refine aXl ?_ | refine aXi ?_ | refine aL ?_ | refine aU ?_ | refine aM ?_ | refine aN ?_ | refine aR ?_); simp only [go_sem, reduceCtorEq]) | refine wT ?_ | refine wF ?_ | refine wC (fun h => ?_) (fun h => ?_) | refine iK ?_ | refine aI2 ?_ | (refine hK _ ?_; clear hK K) | clear hK K)
      refine Stop.out ?_
      refine W.fits (s' := { t := [(0, spsT l), (3, .c (.ip [.flat (.int .i64 x.id)]))], h := [], nx := 3, ex := [], nt := 77 }) (Fits.seeP 3 0 rfl rfl rfl (Fits.fit [] [0, 3] 3 rfl rfl Fits.rfl)) ?_
      refine W.regE ?_
      refine ⟨rfl, OpE.ofAOp 900 (by simp [St.used]) ?_⟩
      simp only [go_sem]
      refine ⟨rfl, OpE.makeFnPs rfl rfl rfl ?_⟩
      simp only [go_sem]
      refine ⟨rfl, OpE.ofAOp 901 (by simp [St.used]) ?_⟩
      simp only [go_sem]
      refine aP ?_
      simp only [go_sem]
      refine ⟨rfl, OpE.ofAOp 902 (by simp [St.used]) ?_⟩
      simp only [go_sem]
      refine ⟨_, Fits.fit [] [0, 3, 6] 0 rfl rfl Fits.rfl, ?_⟩
      simp only [go_sem]
      clear ci
      repeat' (first | refine W.stop (id := 8) ?_ | refine W.seq fun K hK => ?_ | refine W.block ?_ | ((first | refine wR ?_ | refine wD ?_ | refine W.skip ?_ | refine W.exit ?_ | refine W.ret (Post.ret ?_) | refine aP ?_ | refine aF ?_ | refine aIn ?_ | refine aL ?_ | refine aU (hnn := by simp only [go_sem, reduceCtorEq, List.getElem?_map, hj, spA, her, q0, q1, List.length_map]) ?_ | refine aXl ?_ | refine aXi ?_ | refine aL ?_ | refine aU (hnn := by simp only [go_sem, reduceCtorEq, List.getElem?_map, hj, spA, her, q0, q1, List.length_map]) ?_ | refine aM ?_ | refine aN ?_ | refine aR ?_); simp only [go_sem, reduceCtorEq, List.getElem?_map, hj, spA, her, q0, q1, List.length_map]) | refine wT ?_ | refine wF ?_ | refine wC (fun h => ?_) (fun h => ?_) | refine iK ?_ | refine aI2 ?_ | (refine hK _ ?_; clear hK K) | clear hK K)
      refine Stop.out ?_
      refine W.regE ?_
      refine ⟨rfl, OpE.ofAOp 910 (by simp [St.used]) ?_⟩
      simp only [go_sem]
      refine ⟨rfl, OpE.ofAOp 911 (by simp [St.used]) ?_⟩
      simp only [go_sem]
      refine ⟨rfl, OpE.ofAOp 912 (by simp [St.used]) ?_⟩
      simp only [go_sem]
      refine ⟨rfl, OpE.ofAOp 913 (by simp [St.used]) ?_⟩
      simp only [go_sem, hw2]
      refine ⟨rfl, OpE.ofAOp 914 (by simp [St.used]) ?_⟩
      simp only [go_sem, hw2]
      refine ⟨rfl, OpE.ofAOp 915 (by simp [St.used]) ?_⟩
      simp only [go_sem, hw2]
      refine ⟨rfl, OpE.ofAOp 916 (by simp [St.used]) ?_⟩
      simp only [go_sem]
      have hcut : ((l.map spA).take (j + 1)).drop j = [spA x] := by
        rw [List.take_add_one, List.getElem?_map, hj]
        simp [List.drop_append, show min j l.length = j by omega]
      refine AX.cut3 (xs := l.map spA) rfl tL30 tE42 (by decide) rfl rfl rfl rfl (Int.natCast_nonneg _) (by omega) (by rw [List.length_map]; omega) rfl ?_
      simp only [go_sem, hcut]
      refine ⟨rfl, OpE.ofAOp 917 (by simp [St.used]) ?_⟩
      simp only [go_sem]
      refine ⟨_, Fits.rfl, ?_⟩
      refine hK _ ?_
      clear hK K
      repeat' (first | refine W.seq fun K hK => ?_ | refine W.block ?_ | ((first | refine wR ?_ | refine wD ?_ | refine W.skip ?_ | refine W.exit ?_ | refine W.ret (Post.ret ?_) | refine aP ?_ | refine aF ?_ | refine aIn ?_ | refine aL ?_ | refine aU ?_ | refine aXl ?_ | refine aXi ?_ | refine aL ?_ | refine aU ?_ | refine aM ?_ | refine aN ?_ | refine aR ?_); simp only [go_sem, reduceCtorEq]) | refine wT ?_ | refine wF ?_ | refine wC (fun h => ?_) (fun h => ?_) | refine iK ?_ | refine aI2 ?_ | (refine hK _ ?_; clear hK K) | clear hK K)
      refine W.loopF (T := fun y : Td × List Spn => { t := [(0, spsT l), (7, .c (.ref 0)), (8, .c (.mp 1)), (9, .c y.1.c)], h := (0, .row 3 (imR ((outD l y.2).map iA))) :: (1, .map 3 (msE (seenD y.2 y.1.list))) :: y.1.h, nx := 3, ex := [], nt := 77 })
        (Inv := fun y => CB l x y.2 y.1.list ∧ y.1.ok y.2) (μ := fun y => l.length - y.2.length) (x0 := (Td.fix x, [])) (Fits.fit [(11, 1), (916, 2)] [0, 7, 8, 9] 3 rfl rfl ?_) ⟨CB.init hx, trivial⟩ ?_
      · simp only [go_sem]
        refine Fits.adopt 7 3 3 rfl rfl rfl tE3 rfl ?_
        refine Fits.fit [(3, 0), (1, 1), (2, 2)] [0, 7, 8, 9] 3 rfl rfl ?_
        simp only [go_sem, Td.c, Td.h, Td.list, outD, seenD, msE, List.nil_append, List.map_cons, List.map_nil, List.filter_nil, imR_nil]
        exact Fits.rfl
      rintro ⟨td, D⟩ ⟨hcb, hok⟩ KL hKL
      cases td with
      | emp =>
        simp only [Td.c, Td.h, Td.list] at hcb ⊢
        clear hKL
        have hfin := hcb.fin hn hx her
        repeat' (first | refine W.seq fun K hK => ?_ | refine W.block ?_ | ((first | refine wR ?_ | refine wD ?_ | refine W.skip ?_ | refine W.exit ?_ | refine W.ret (Post.ret ?_) | refine aP ?_ | refine aF ?_ | refine aIn ?_ | refine aL ?_ | refine aU ?_ | refine aXl ?_ | refine aXi ?_ | refine aL ?_ | refine aU ?_ | refine aM ?_ | refine aN ?_ | refine aR ?_); simp only [go_sem, reduceCtorEq]) | refine wT ?_ | refine wF ?_ | refine wC (fun h => ?_) (fun h => ?_) | refine iK ?_ | refine aI2 ?_ | (refine hK _ ?_; clear hK K) | clear hK K)
        refine AX.sortI (zs := outD l D) rfl rfl rfl rfl rfl tE3 (by decide) c56 rfl ?_
        simp only [go_sem]
        repeat' (first | refine W.seq fun K hK => ?_ | refine W.block ?_ | ((first | refine wR ?_ | refine wD ?_ | refine W.skip ?_ | refine W.exit ?_ | refine W.ret (Post.ret ?_) | refine aP ?_ | refine aF ?_ | refine aIn ?_ | refine aL ?_ | refine aU ?_ | refine aXl ?_ | refine aXi ?_ | refine aL ?_ | refine aU ?_ | refine aM ?_ | refine aN ?_ | refine aR ?_); simp only [go_sem, reduceCtorEq]) | refine wT ?_ | refine wF ?_ | refine wC (fun h => ?_) (fun h => ?_) | refine iK ?_ | refine aI2 ?_ | (refine hK _ ?_; clear hK K) | clear hK K)
        rw [← hfin]
        rfl
      | fix y =>
        simp only [Td.c, Td.h, Td.list] at hcb ⊢
        have hcl : D.length + 1 ≤ l.length := by have := hcb.len; simp only [List.length_cons] at this; omega
        have hol : (List.filter (orig l) D).length ≤ D.length := List.length_filter_le _ _
        have hym : y ∈ l := (hcb.sub y (by simp)).1
        have c1 := co y
        have c2 := cf y.id
        clear co cf
        simp only [spT, spA, List.map] at c1
        repeat' (first | refine W.stop (id := 12) ?_ | refine W.seq fun K hK => ?_ | refine W.block ?_ | ((first | refine wR ?_ | refine wD ?_ | refine W.skip ?_ | refine W.exit ?_ | refine W.ret (Post.ret ?_) | refine aP ?_ | refine aF ?_ | refine aIn ?_ | refine aL ?_ | refine aU (hnn := by simp only [go_sem, reduceCtorEq, spA]) ?_ | refine aXl ?_ | refine aXi ?_ | refine aL ?_ | refine aU (hnn := by simp only [go_sem, reduceCtorEq, spA]) ?_ | refine aM ?_ | refine aN ?_ | refine aR ?_); simp only [go_sem, reduceCtorEq, spA]) | refine wT ?_ | refine wF ?_ | refine wC (fun h => ?_) (fun h => ?_) | refine iK ?_ | refine aI2 ?_ | (refine hK _ ?_; clear hK K) | clear hK K)
        refine Stop.out ?_
        rename_i K14 hK14o
        have hK14 : ∀ s1, Fits { P := Tryz.prog, w0 := w0, ok0 := ok0, may := may, np := 0, pblk := pblk } s1 { t := [(0, spsT l), (7, .c (.ref 0)), (8, .c (.mp 1)), (9, .c (.ref 2)), (10, .c (.ptr 3 0))], h := [(0, .row 3 (imR ((outD l (D ++ [y])).map iA))), (1, .map 3 (msE (seenD D ([y])))), (2, .fix 42 [spA y]), (3, .box 42 ((spA y).map .im))], nx := 4, ex := [], nt := 77 } → K14 s1 := by
          intro s1 hf
          refine hK14o _ (W.fits hf ?_)
          clear hf hK14o hK K c1
          simp only [spA, List.map]
          obtain ⟨fl, hfl⟩ : ∃ fl, fl = failL l y.id := ⟨_, rfl⟩
          rw [← hfl] at c2
          have hflm : ∀ c ∈ fl, c ∈ l := fun c hc => (failL_mem.1 (hfl ▸ hc)).1
          have hfll : fl.length ≤ l.length := by rw [hfl]; exact List.length_filter_le _ _
          repeat' (first | refine W.seq fun K hK => ?_ | refine W.block ?_ | ((first | refine wR ?_ | refine wD ?_ | refine W.skip ?_ | refine W.exit ?_ | refine W.ret (Post.ret ?_) | refine aP ?_ | refine aF ?_ | refine aIn ?_ | refine aL ?_ | refine aU (hnn := by simp only [go_sem, reduceCtorEq, List.length_map]) ?_ | refine aXl ?_ | refine aXi ?_ | refine aL ?_ | refine aU (hnn := by simp only [go_sem, reduceCtorEq, List.length_map]) ?_ | refine aM ?_ | refine aN ?_ | refine aR ?_); simp only [go_sem, reduceCtorEq, List.length_map]) | refine wT ?_ | refine wF ?_ | refine wC (fun h => ?_) (fun h => ?_) | refine iK ?_ | refine aI2 ?_ | (refine hK _ ?_; clear hK K) | clear hK K)
          refine W.loopF (T := fun z : Nat × Td => { t := [(0, spsT l), (7, .c (.ref 0)), (8, .c (.mp 1)), (9, .c z.2.c), (55, spsT fl), (56, ft (.int .i64 fl.length)), (57, ft (.int .i64 (z.1 : Nat)))], h := (0, .row 3 (imR ((outD l (D ++ [y])).map iA))) :: (1, .map 3 (msE (seenD D z.2.list))) :: z.2.h, nx := 3, ex := [], nt := 77 })
            (Inv := fun z => z.1 ≤ fl.length ∧ CB l x D z.2.list ∧ z.2.ok D ∧ (∃ r, z.2.list = y :: r) ∧ ∀ c ∈ fl.take z.1, c ∈ D ++ z.2.list) (μ := fun z => fl.length - z.1) (x0 := (0, Td.fix y)) (Fits.fit [(0, 0), (1, 1), (2, 2)] [0, 7, 8, 9, 55, 56, 57] 3 rfl rfl ?_) ⟨Nat.zero_le _, hcb, hok, ⟨_, rfl⟩, by simp⟩ ?_
          · simp only [go_sem, Td.c, Td.h, Td.list, rnEs_msE]
            exact Fits.rfl
          clear c2 hcb hok
          rintro ⟨k, td⟩ ⟨hk, hcb, hok, ⟨r, hr⟩, htk⟩ KJ hKJ
          by_cases hlt : k < fl.length
          · obtain ⟨c, hc, hcm, hcd⟩ := drop_at hlt
            have e1 : decide ((k : Int) < fl.length) = true := by simp; omega
            have hw := w64s k (by omega)
            have hkc := hko c (hflm c hcm)
            have hym : y ∈ D ++ td.list := by rw [hr]; simp
            have hnext : ∀ r', (∀ z ∈ D ++ td.list, z ∈ D ++ r') → c ∈ D ++ r' → ∀ z ∈ fl.take (k + 1), z ∈ D ++ r' := fun r' h1 h2 z hz => by
              rw [List.take_add_one, hc] at hz
              rcases List.mem_append.1 hz with hz | hz
              · exact h1 z (htk z hz)
              · simp at hz; subst hz; exact h2
            by_cases hin : c.id ∈ seenD D td.list
            · have hget := msE_in hin
              have hinv := hnext td.list (fun z h => h) (hcb.mem hn (hflm c hcm) hin)
              cases td with
              | emp => cases hr
              | fix y2 =>
                simp only [Td.c, Td.h, Td.list] at hget ⊢
                repeat' (first | refine W.seq fun K hK => ?_ | refine W.block ?_ | ((first | refine wR ?_ | refine wD ?_ | refine W.skip ?_ | refine W.exit ?_ | refine W.ret (Post.ret ?_) | refine aP ?_ | refine aF ?_ | refine aIn ?_ | refine aL ?_ | refine aU (hnn := by simp only [go_sem, reduceCtorEq, List.getElem?_map, hc, spA, e1, hw, hget]) ?_ | refine aXl ?_ | refine aXi ?_ | refine aL ?_ | refine aU (hnn := by simp only [go_sem, reduceCtorEq, List.getElem?_map, hc, spA, e1, hw, hget]) ?_ | refine aM ?_ | refine aN ?_ | refine aR ?_); simp only [go_sem, reduceCtorEq, List.getElem?_map, hc, spA, e1, hw, hget]) | refine wT ?_ | refine wF ?_ | refine wC (fun h => ?_) (fun h => ?_) | refine iK ?_ | refine aI2 ?_ | (refine hK _ ?_; clear hK K) | clear hK K)
                refine hKJ.to (k + 1, Td.fix y2) ⟨by omega, hcb, hok, ⟨r, hr⟩, hinv⟩ (by simp only; omega) (Fits.fit [(0, 0), (1, 1), (2, 2)] [0, 7, 8, 9, 55, 56, 57] 3 rfl rfl ?_)
                simp only [go_sem, Td.c, Td.h, Td.list, rnEs_msE, spA, List.map_cons, List.map_nil]
                exact Fits.rfl
              | vw pre2 todo2 =>
                simp only [Td.c, Td.h, Td.list] at hget ⊢
                repeat' (first | refine W.seq fun K hK => ?_ | refine W.block ?_ | ((first | refine wR ?_ | refine wD ?_ | refine W.skip ?_ | refine W.exit ?_ | refine W.ret (Post.ret ?_) | refine aP ?_ | refine aF ?_ | refine aIn ?_ | refine aL ?_ | refine aU (hnn := by simp only [go_sem, reduceCtorEq, List.getElem?_map, hc, spA, e1, hw, hget]) ?_ | refine aXl ?_ | refine aXi ?_ | refine aL ?_ | refine aU (hnn := by simp only [go_sem, reduceCtorEq, List.getElem?_map, hc, spA, e1, hw, hget]) ?_ | refine aM ?_ | refine aN ?_ | refine aR ?_); simp only [go_sem, reduceCtorEq, List.getElem?_map, hc, spA, e1, hw, hget]) | refine wT ?_ | refine wF ?_ | refine wC (fun h => ?_) (fun h => ?_) | refine iK ?_ | refine aI2 ?_ | (refine hK _ ?_; clear hK K) | clear hK K)
                refine hKJ.to (k + 1, Td.vw pre2 todo2) ⟨by omega, hcb, hok, ⟨r, hr⟩, hinv⟩ (by simp only; omega) (Fits.fit [(0, 0), (1, 1), (2, 2)] [0, 7, 8, 9, 55, 56, 57] 3 rfl rfl ?_)
                simp only [go_sem, Td.c, Td.h, Td.list, rnEs_msE, spA, List.map_cons, List.map_nil]
                exact Fits.rfl
            · have hget := msE_out hin
              have hput : mput (Value.int .i64 c.id) (false, [Exe.fl (.bool true)]) (msE (seenD D td.list)) = msE (seenD D (td.list ++ [c])) := by
                rw [msE_put, addK, if_neg hin]; simp [seenD]
              have hcb2 := hcb.push hym (hfl ▸ hcm) hin
              have hlen2 := hcb2.len
              have hinv := hnext (td.list ++ [c]) (fun z h => by rw [← List.append_assoc]; exact List.mem_append.2 (.inl h)) (by simp)
              cases td with
              | emp => cases hr
              | fix y2 =>
                simp only [Td.c, Td.h, Td.list] at hget hput hcb2 hlen2 hinv hr ⊢
                repeat' (first | refine W.stop (id := 19) ?_ | refine W.seq fun K hK => ?_ | refine W.block ?_ | ((first | refine wR ?_ | refine wD ?_ | refine W.skip ?_ | refine W.exit ?_ | refine W.ret (Post.ret ?_) | refine aP ?_ | refine aF ?_ | refine aIn ?_ | refine aL ?_ | refine aU (hnn := by simp only [go_sem, reduceCtorEq, List.getElem?_map, hc, spA, e1, hw, hget, hput]) ?_ | refine aXl ?_ | refine aXi ?_ | refine aL ?_ | refine aU (hnn := by simp only [go_sem, reduceCtorEq, List.getElem?_map, hc, spA, e1, hw, hget, hput]) ?_ | refine aM ?_ | refine aN ?_ | refine aR ?_); simp only [go_sem, reduceCtorEq, List.getElem?_map, hc, spA, e1, hw, hget, hput]) | refine wT ?_ | refine wF ?_ | refine wC (fun h => ?_) (fun h => ?_) | refine iK ?_ | refine aI2 ?_ | (refine hK _ ?_; clear hK K) | clear hK K)
                refine Stop.out ?_
                refine W.regE ?_
                refine ⟨rfl, OpE.ofAOp 930 (by simp [St.used]) ?_⟩
                simp only [go_sem]
                refine ⟨rfl, OpE.ofAOp 931 (by simp [St.used]) ?_⟩
                simp only [go_sem]
                refine ⟨rfl, OpE.ofAOp 932 (by simp [St.used]) ?_⟩
                simp only [go_sem]
                refine ⟨rfl, OpE.appFix 940 (xs := [spA y2]) rfl tL30 tE42 (by decide) (by decide) tZ42 rfl rfl rfl rfl rfl Nat.zero_lt_one (show (1 + 1) * 168 ≤ 140737488355328 by decide) (by simp [St.used]) rfl ?_⟩
                simp only [go_sem]
                refine ⟨rfl, OpE.ofAOp 941 (by simp [St.used]) ?_⟩
                simp only [go_sem]
                refine ⟨_, Fits.fit [(0, 0), (1, 1), (940, 2)] [0, 7, 8, 9, 55, 56, 57] 3 rfl rfl Fits.rfl, ?_⟩
                simp only [go_sem, rnEs_msE]
                repeat' (first | refine W.seq fun K hK => ?_ | refine W.block ?_ | ((first | refine wR ?_ | refine wD ?_ | refine W.skip ?_ | refine W.exit ?_ | refine W.ret (Post.ret ?_) | refine aP ?_ | refine aF ?_ | refine aIn ?_ | refine aL ?_ | refine aU (hnn := by simp only [go_sem, reduceCtorEq, hw]) ?_ | refine aXl ?_ | refine aXi ?_ | refine aL ?_ | refine aU (hnn := by simp only [go_sem, reduceCtorEq, hw]) ?_ | refine aM ?_ | refine aN ?_ | refine aR ?_); simp only [go_sem, reduceCtorEq, hw]) | refine wT ?_ | refine wF ?_ | refine wC (fun h => ?_) (fun h => ?_) | refine iK ?_ | refine aI2 ?_ | (refine hK _ ?_; clear hK K) | clear hK K)
                refine hKJ.to (k + 1, Td.vw [] [y2, c]) ⟨by omega, hcb2, Nat.zero_le _, ⟨[c], by show [y2, c] = _; rw [(List.cons.inj hr).1]⟩, hinv⟩ (by simp only; omega) (Fits.fit [(0, 0), (1, 1), (2, 2)] [0, 7, 8, 9, 55, 56, 57] 3 rfl rfl ?_)
                have hrow2 : imR [spA y2] ++ [(spA c).map .im] = imR ([y2, c].map spA) := rfl
                simp only [spA, List.map] at hrow2
                simp only [go_sem, rnEs_msE, hrow2]
                refine Fits.refVw 9 2 rfl rfl tE42 ?_
                refine Fits.fit [(0, 0), (1, 1), (2, 2)] [0, 7, 8, 9, 55, 56, 57] 3 rfl rfl ?_
                simp only [go_sem, Td.c, Td.h, Td.list, rnEs_msE, spA, List.map_cons, List.map_nil, imR_len, List.length_cons, List.length_nil, List.nil_append]
                exact Fits.rfl
              | vw pre2 todo2 =>
                simp only [Td.c, Td.h, Td.list] at hget hput hcb2 hlen2 hinv hr ⊢
                have hok' : pre2.length ≤ D.length := hok
                have htl : 0 < todo2.length := by rw [hr]; simp
                rw [List.length_append, List.length_singleton] at hlen2
                repeat' (first | refine W.stop (id := 19) ?_ | refine W.seq fun K hK => ?_ | refine W.block ?_ | ((first | refine wR ?_ | refine wD ?_ | refine W.skip ?_ | refine W.exit ?_ | refine W.ret (Post.ret ?_) | refine aP ?_ | refine aF ?_ | refine aIn ?_ | refine aL ?_ | refine aU (hnn := by simp only [go_sem, reduceCtorEq, List.getElem?_map, hc, spA, e1, hw, hget, hput]) ?_ | refine aXl ?_ | refine aXi ?_ | refine aL ?_ | refine aU (hnn := by simp only [go_sem, reduceCtorEq, List.getElem?_map, hc, spA, e1, hw, hget, hput]) ?_ | refine aM ?_ | refine aN ?_ | refine aR ?_); simp only [go_sem, reduceCtorEq, List.getElem?_map, hc, spA, e1, hw, hget, hput]) | refine wT ?_ | refine wF ?_ | refine wC (fun h => ?_) (fun h => ?_) | refine iK ?_ | refine aI2 ?_ | (refine hK _ ?_; clear hK K) | clear hK K)
                refine Stop.out ?_
                refine W.regE ?_
                refine ⟨rfl, OpE.ofAOp 930 (by simp [St.used]) ?_⟩
                simp only [go_sem]
                refine ⟨rfl, OpE.ofAOp 931 (by simp [St.used]) ?_⟩
                simp only [go_sem]
                refine ⟨rfl, OpE.ofAOp 932 (by simp [St.used]) ?_⟩
                simp only [go_sem]
                refine ⟨rfl, OpE.appV 940 (xs := imR (pre2 ++ todo2.map spA)) rfl tL30 tE42 (by decide) (by decide) tZ42 rfl rfl rfl htl (by rw [imR_len, List.length_append, List.length_map]) rfl rfl Nat.zero_lt_one ?_ (by simp [St.used]) rfl fun pre3 hpre3 => ?_⟩
                · refine Nat.le_trans (Nat.mul_le_mul_right _ ?_) hl1
                  rw [imR_len, List.length_append, List.length_map]
                  show pre2.length + todo2.length + 1 ≤ _
                  omega
                simp only [go_sem]
                refine ⟨rfl, OpE.ofAOp 941 (by simp [St.used]) ?_⟩
                simp only [go_sem]
                obtain ⟨pre4, rfl, hp4⟩ : ∃ q : List (List AV), pre3 = imR q ∧ q.length ≤ pre2.length := by
                  rcases hpre3 with rfl | rfl
                  · refine ⟨pre2, ?_, Nat.le_refl _⟩
                    rw [imR, imR, ← List.map_take, List.take_left]
                  · exact ⟨[], rfl, Nat.zero_le _⟩
                have hrow : imR pre4 ++ (List.drop pre2.length (imR (pre2 ++ todo2.map spA)) ++ [(spA c).map .im]) = imR (pre4 ++ (todo2 ++ [c]).map spA) := by
                  rw [imR, imR, ← List.map_drop, List.drop_left]; simp [imR, imL]
                rw [show (imR (pre2 ++ todo2.map spA)).drop pre2.length = imR ((pre2 ++ todo2.map spA).drop pre2.length) from by rw [imR, imR, List.map_drop], List.drop_left] at hrow
                have hdl : (pre2 ++ todo2.map spA).drop pre2.length = todo2.map spA := List.drop_left
                simp only [spA, List.map] at hrow hdl
                simp only [imR_len, hdl, hrow]
                refine ⟨_, Fits.fit [(0, 0), (1, 1), (940, 2)] [0, 7, 8, 9, 55, 56, 57] 3 rfl rfl Fits.rfl, ?_⟩
                simp only [go_sem, rnEs_msE]
                repeat' (first | refine W.seq fun K hK => ?_ | refine W.block ?_ | ((first | refine wR ?_ | refine wD ?_ | refine W.skip ?_ | refine W.exit ?_ | refine W.ret (Post.ret ?_) | refine aP ?_ | refine aF ?_ | refine aIn ?_ | refine aL ?_ | refine aU (hnn := by simp only [go_sem, reduceCtorEq, hw]) ?_ | refine aXl ?_ | refine aXi ?_ | refine aL ?_ | refine aU (hnn := by simp only [go_sem, reduceCtorEq, hw]) ?_ | refine aM ?_ | refine aN ?_ | refine aR ?_); simp only [go_sem, reduceCtorEq, hw]) | refine wT ?_ | refine wF ?_ | refine wC (fun h => ?_) (fun h => ?_) | refine iK ?_ | refine aI2 ?_ | (refine hK _ ?_; clear hK K) | clear hK K)
                refine hKJ.to (k + 1, Td.vw pre4 (todo2 ++ [c])) ⟨by omega, hcb2, Nat.le_trans hp4 hok', ⟨r ++ [c], by show todo2 ++ [c] = _; rw [hr]; rfl⟩, hinv⟩ (by simp only; omega) (Fits.fit [(0, 0), (1, 1), (2, 2)] [0, 7, 8, 9, 55, 56, 57] 3 rfl rfl ?_)
                simp only [go_sem, Td.c, Td.h, Td.list, rnEs_msE, hrow, imR_len, List.length_append, List.length_cons, List.length_nil]
                exact Fits.rfl
          · obtain rfl : k = fl.length := by omega
            have e1 : decide ((fl.length : Int) < fl.length) = false := by simp
            clear hKJ
            rw [List.take_length] at htk
            have hcb3 : CB l x (D ++ [y]) r := by rw [hr] at hcb htk; exact hcb.pop (fun c hc => htk c (hfl ▸ hc))
            have hlen := hcb.len
            have hlen3 := hcb3.len
            rw [List.length_append, List.length_singleton] at hlen3
            have hseen : seenD D td.list = seenD (D ++ [y]) r := by rw [hr]; simp [seenD]
            cases td with
            | emp => cases hr
            | fix y2 =>
              simp only [Td.c, Td.h, Td.list] at hr hseen hlen ⊢
              obtain ⟨rfl, rfl⟩ : y2 = y ∧ r = [] := by simpa using hr
              rw [hseen]
              repeat' (first | refine W.seq fun K hK => ?_ | refine W.block ?_ | ((first | refine wR ?_ | refine wD ?_ | refine W.skip ?_ | refine W.exit ?_ | refine W.ret (Post.ret ?_) | refine aP ?_ | refine aF ?_ | refine aIn ?_ | refine aL ?_ | refine aU (hnn := by simp only [go_sem, reduceCtorEq, e1]) ?_ | refine aXl ?_ | refine aXi ?_ | refine aL ?_ | refine aU (hnn := by simp only [go_sem, reduceCtorEq, e1]) ?_ | refine aM ?_ | refine aN ?_ | refine aR ?_); simp only [go_sem, reduceCtorEq, e1]) | refine wT ?_ | refine wF ?_ | refine wC (fun h => ?_) (fun h => ?_) | refine iK ?_ | refine aI2 ?_ | (refine hK _ ?_; clear hK K) | clear hK K)
              refine AX.cutFix (xs := [spA y2]) rfl tL30 tE42 (by decide) rfl rfl rfl (by decide) (show (1 : Int) ≤ ((1 : Nat) : Int) by decide) rfl ?_
              simp only [go_sem]
              repeat' (first | refine W.seq fun K hK => ?_ | refine W.block ?_ | ((first | refine wR ?_ | refine wD ?_ | refine W.skip ?_ | refine W.exit ?_ | refine W.ret (Post.ret ?_) | refine aP ?_ | refine aF ?_ | refine aIn ?_ | refine aL ?_ | refine aU ?_ | refine aXl ?_ | refine aXi ?_ | refine aL ?_ | refine aU ?_ | refine aM ?_ | refine aN ?_ | refine aR ?_); simp only [go_sem, reduceCtorEq]) | refine wT ?_ | refine wF ?_ | refine wC (fun h => ?_) (fun h => ?_) | refine iK ?_ | refine aI2 ?_ | (refine hK _ ?_; clear hK K) | clear hK K)
              refine hKL.to (Td.emp, D ++ [y2]) ⟨hcb3, trivial⟩ (by simp only [List.length_append, List.length_singleton]; omega) (Fits.fit [(0, 0), (1, 1)] [0, 7, 8, 9] 3 rfl rfl ?_)
              simp only [go_sem, Td.c, Td.h, Td.list, rnEs_msE]
              exact Fits.rfl
            | vw pre2 todo2 =>
              have hok' : pre2.length ≤ D.length := hok
              simp only [Td.c, Td.h, Td.list] at hr hseen hlen ⊢
              subst hr
              rw [hseen]
              have f1 : decide ((1 : Int) ≤ ((y :: r).length : Int)) = true := by simp; omega
              repeat' (first | refine W.seq fun K hK => ?_ | refine W.block ?_ | ((first | refine wR ?_ | refine wD ?_ | refine W.skip ?_ | refine W.exit ?_ | refine W.ret (Post.ret ?_) | refine aP ?_ | refine aF ?_ | refine aIn ?_ | refine aL ?_ | refine aU (hnn := by simp only [go_sem, reduceCtorEq, e1, f1, List.length_append, imR_len, List.length_map]) ?_ | refine aXl ?_ | refine aXi ?_ | refine aL ?_ | refine aU (hnn := by simp only [go_sem, reduceCtorEq, e1, f1, List.length_append, imR_len, List.length_map]) ?_ | refine aM ?_ | refine aN ?_ | refine aR ?_); simp only [go_sem, reduceCtorEq, e1, f1, List.length_append, imR_len, List.length_map]) | refine wT ?_ | refine wF ?_ | refine wC (fun h => ?_) (fun h => ?_) | refine iK ?_ | refine aI2 ?_ | (refine hK _ ?_; clear hK K) | clear hK K)
              refine hKL.to (Td.vw (pre2 ++ [spA y]) r, D ++ [y]) ⟨hcb3, by show (pre2 ++ _).length ≤ (D ++ _).length; simp; omega⟩ (by simp only [List.length_append, List.length_singleton]; omega) (Fits.fit [(0, 0), (1, 1), (2, 2)] [0, 7, 8, 9] 3 rfl rfl ?_)
              simp only [go_sem, Td.c, Td.h, Td.list, rnEs_msE, List.append_assoc, List.map_cons, List.cons_append, List.nil_append, List.length_append, List.length_cons, List.length_nil]
              exact Fits.rfl
        clear hK14o hKL c2
        have hsn := outD_snoc l D y
        cases hox : orig l y with
        | false =>
          rw [hox] at c1 hsn
          repeat' (first | refine W.seq fun K hK => ?_ | refine W.block ?_ | ((first | refine wR ?_ | refine wD ?_ | refine W.skip ?_ | refine W.exit ?_ | refine W.ret (Post.ret ?_) | refine aP ?_ | refine aF ?_ | refine aIn ?_ | refine aL ?_ | refine aU (hnn := by simp only [go_sem, reduceCtorEq, spA]) ?_ | refine aXl ?_ | refine aXi ?_ | refine aL ?_ | refine aU (hnn := by simp only [go_sem, reduceCtorEq, spA]) ?_ | refine aM ?_ | refine aN ?_ | refine aR ?_); simp only [go_sem, reduceCtorEq, spA]) | refine wT ?_ | refine wF ?_ | refine wC (fun h => ?_) (fun h => ?_) | refine iK ?_ | refine aI2 ?_ | (refine hK _ ?_; clear hK K) | clear hK K)
          refine hK14 _ (Fits.fit [(0, 0), (1, 1), (2, 2), (9, 3)] [0, 7, 8, 9, 10] 4 rfl rfl ?_)
          simp only [go_sem, hsn, Bool.false_eq_true, if_false, rnEs_msE, spA, List.map]
          exact Fits.rfl
        | true =>
          rw [hox] at c1 hsn
          repeat' (first | refine W.seq fun K hK => ?_ | refine W.block ?_ | ((first | refine wR ?_ | refine wD ?_ | refine W.skip ?_ | refine W.exit ?_ | refine W.ret (Post.ret ?_) | refine aP ?_ | refine aF ?_ | refine aIn ?_ | refine aL ?_ | refine aU (hnn := by simp only [go_sem, reduceCtorEq, spA, imR_len, List.length_map]) ?_ | refine aXl ?_ | refine aXi ?_ | refine aL ?_ | refine aU (hnn := by simp only [go_sem, reduceCtorEq, spA, imR_len, List.length_map]) ?_ | refine aM ?_ | refine aN ?_ | refine aR ?_); simp only [go_sem, reduceCtorEq, spA, imR_len, List.length_map]) | refine wT ?_ | refine wF ?_ | refine wC (fun h => ?_) (fun h => ?_) | refine iK ?_ | refine aI2 ?_ | (refine hK _ ?_; clear hK K) | clear hK K)
          refine hK14 _ (Fits.fit [(18, 0), (1, 1), (2, 2), (9, 3)] [0, 7, 8, 9, 10] 4 rfl rfl ?_)
          simp only [go_sem, hsn, if_true, imR_snocI, rnEs_msE, spA, List.map]
          exact Fits.rfl
      | vw pre todo =>
        cases todo with
        | nil =>
          simp only [Td.c, Td.h, Td.list] at hcb ⊢
          clear hKL
          have hfin := hcb.fin hn hx her
          repeat' (first | refine W.seq fun K hK => ?_ | refine W.block ?_ | ((first | refine wR ?_ | refine wD ?_ | refine W.skip ?_ | refine W.exit ?_ | refine W.ret (Post.ret ?_) | refine aP ?_ | refine aF ?_ | refine aIn ?_ | refine aL ?_ | refine aU ?_ | refine aXl ?_ | refine aXi ?_ | refine aL ?_ | refine aU ?_ | refine aM ?_ | refine aN ?_ | refine aR ?_); simp only [go_sem, reduceCtorEq]) | refine wT ?_ | refine wF ?_ | refine wC (fun h => ?_) (fun h => ?_) | refine iK ?_ | refine aI2 ?_ | (refine hK _ ?_; clear hK K) | clear hK K)
          refine AX.sortI (zs := outD l D) rfl rfl rfl rfl rfl tE3 (by decide) c56 rfl ?_
          simp only [go_sem]
          repeat' (first | refine W.seq fun K hK => ?_ | refine W.block ?_ | ((first | refine wR ?_ | refine wD ?_ | refine W.skip ?_ | refine W.exit ?_ | refine W.ret (Post.ret ?_) | refine aP ?_ | refine aF ?_ | refine aIn ?_ | refine aL ?_ | refine aU ?_ | refine aXl ?_ | refine aXi ?_ | refine aL ?_ | refine aU ?_ | refine aM ?_ | refine aN ?_ | refine aR ?_); simp only [go_sem, reduceCtorEq]) | refine wT ?_ | refine wF ?_ | refine wC (fun h => ?_) (fun h => ?_) | refine iK ?_ | refine aI2 ?_ | (refine hK _ ?_; clear hK K) | clear hK K)
          rw [← hfin]
          rfl
        | cons y r =>
          simp only [Td.c, Td.h, Td.list] at hcb ⊢
          have hat : (imR (pre ++ (y :: r).map spA))[pre.length]? = some ((spA y).map .im) := by rw [imR, List.getElem?_map, List.getElem?_append_right (Nat.le_refl _), Nat.sub_self]; rfl
          have g1 : decide (((r.length + 1 : Nat) : Int) > 0) = true := by first | (simp; done) | (simp; omega)
          have g2 : decide (0 < r.length + 1) = true := by simp
          simp only [spA, List.map] at hat
          have hcl : D.length + 1 ≤ l.length := by have := hcb.len; simp only [List.length_cons] at this; omega
          have hol : (List.filter (orig l) D).length ≤ D.length := List.length_filter_le _ _
          have hym : y ∈ l := (hcb.sub y (by simp)).1
          have c1 := co y
          have c2 := cf y.id
          clear co cf
          simp only [spT, spA, List.map] at c1
          repeat' (first | refine W.stop (id := 12) ?_ | refine W.seq fun K hK => ?_ | refine W.block ?_ | ((first | refine wR ?_ | refine wD ?_ | refine W.skip ?_ | refine W.exit ?_ | refine W.ret (Post.ret ?_) | refine aP ?_ | refine aF ?_ | refine aIn ?_ | refine aL ?_ | refine aU (hnn := by simp only [go_sem, reduceCtorEq, spA, g1, g2, hat]) ?_ | refine aXl ?_ | refine aXi ?_ | refine aL ?_ | refine aU (hnn := by simp only [go_sem, reduceCtorEq, spA, g1, g2, hat]) ?_ | refine aM ?_ | refine aN ?_ | refine aR ?_); simp only [go_sem, reduceCtorEq, spA, g1, g2, hat]) | refine wT ?_ | refine wF ?_ | refine wC (fun h => ?_) (fun h => ?_) | refine iK ?_ | refine aI2 ?_ | (refine hK _ ?_; clear hK K) | clear hK K)
          refine Stop.out ?_
          rename_i K14 hK14o
          have hK14 : ∀ s1, Fits { P := Tryz.prog, w0 := w0, ok0 := ok0, may := may, np := 0, pblk := pblk } s1 { t := [(0, spsT l), (7, .c (.ref 0)), (8, .c (.mp 1)), (9, .c (.vw 2 14 pre.length (y :: r).length)), (10, .c (.ptr 3 0))], h := [(0, .row 3 (imR ((outD l (D ++ [y])).map iA))), (1, .map 3 (msE (seenD D (y :: r)))), (2, .row 42 (imR (pre ++ (y :: r).map spA))), (3, .box 42 ((spA y).map .im))], nx := 4, ex := [], nt := 77 } → K14 s1 := by
            intro s1 hf
            refine hK14o _ (W.fits hf ?_)
            clear hf hK14o hK K c1
            simp only [spA, List.map]
            obtain ⟨fl, hfl⟩ : ∃ fl, fl = failL l y.id := ⟨_, rfl⟩
            rw [← hfl] at c2
            have hflm : ∀ c ∈ fl, c ∈ l := fun c hc => (failL_mem.1 (hfl ▸ hc)).1
            have hfll : fl.length ≤ l.length := by rw [hfl]; exact List.length_filter_le _ _
            repeat' (first | refine W.seq fun K hK => ?_ | refine W.block ?_ | ((first | refine wR ?_ | refine wD ?_ | refine W.skip ?_ | refine W.exit ?_ | refine W.ret (Post.ret ?_) | refine aP ?_ | refine aF ?_ | refine aIn ?_ | refine aL ?_ | refine aU (hnn := by simp only [go_sem, reduceCtorEq, List.length_map]) ?_ | refine aXl ?_ | refine aXi ?_ | refine aL ?_ | refine aU (hnn := by simp only [go_sem, reduceCtorEq, List.length_map]) ?_ | refine aM ?_ | refine aN ?_ | refine aR ?_); simp only [go_sem, reduceCtorEq, List.length_map]) | refine wT ?_ | refine wF ?_ | refine wC (fun h => ?_) (fun h => ?_) | refine iK ?_ | refine aI2 ?_ | (refine hK _ ?_; clear hK K) | clear hK K)
            refine W.loopF (T := fun z : Nat × Td => { t := [(0, spsT l), (7, .c (.ref 0)), (8, .c (.mp 1)), (9, .c z.2.c), (55, spsT fl), (56, ft (.int .i64 fl.length)), (57, ft (.int .i64 (z.1 : Nat)))], h := (0, .row 3 (imR ((outD l (D ++ [y])).map iA))) :: (1, .map 3 (msE (seenD D z.2.list))) :: z.2.h, nx := 3, ex := [], nt := 77 })
              (Inv := fun z => z.1 ≤ fl.length ∧ CB l x D z.2.list ∧ z.2.ok D ∧ (∃ r, z.2.list = y :: r) ∧ ∀ c ∈ fl.take z.1, c ∈ D ++ z.2.list) (μ := fun z => fl.length - z.1) (x0 := (0, Td.vw pre (y :: r))) (Fits.fit [(0, 0), (1, 1), (2, 2)] [0, 7, 8, 9, 55, 56, 57] 3 rfl rfl ?_) ⟨Nat.zero_le _, hcb, hok, ⟨_, rfl⟩, by simp⟩ ?_
            · simp only [go_sem, Td.c, Td.h, Td.list, rnEs_msE]
              exact Fits.rfl
            clear c2 hcb hok
            rintro ⟨k, td⟩ ⟨hk, hcb, hok, ⟨r, hr⟩, htk⟩ KJ hKJ
            by_cases hlt : k < fl.length
            · obtain ⟨c, hc, hcm, hcd⟩ := drop_at hlt
              have e1 : decide ((k : Int) < fl.length) = true := by simp; omega
              have hw := w64s k (by omega)
              have hkc := hko c (hflm c hcm)
              have hym : y ∈ D ++ td.list := by rw [hr]; simp
              have hnext : ∀ r', (∀ z ∈ D ++ td.list, z ∈ D ++ r') → c ∈ D ++ r' → ∀ z ∈ fl.take (k + 1), z ∈ D ++ r' := fun r' h1 h2 z hz => by
                rw [List.take_add_one, hc] at hz
                rcases List.mem_append.1 hz with hz | hz
                · exact h1 z (htk z hz)
                · simp at hz; subst hz; exact h2
              by_cases hin : c.id ∈ seenD D td.list
              · have hget := msE_in hin
                have hinv := hnext td.list (fun z h => h) (hcb.mem hn (hflm c hcm) hin)
                cases td with
                | emp => cases hr
                | fix y2 =>
                  simp only [Td.c, Td.h, Td.list] at hget ⊢
                  repeat' (first | refine W.seq fun K hK => ?_ | refine W.block ?_ | ((first | refine wR ?_ | refine wD ?_ | refine W.skip ?_ | refine W.exit ?_ | refine W.ret (Post.ret ?_) | refine aP ?_ | refine aF ?_ | refine aIn ?_ | refine aL ?_ | refine aU (hnn := by simp only [go_sem, reduceCtorEq, List.getElem?_map, hc, spA, e1, hw, hget]) ?_ | refine aXl ?_ | refine aXi ?_ | refine aL ?_ | refine aU (hnn := by simp only [go_sem, reduceCtorEq, List.getElem?_map, hc, spA, e1, hw, hget]) ?_ | refine aM ?_ | refine aN ?_ | refine aR ?_); simp only [go_sem, reduceCtorEq, List.getElem?_map, hc, spA, e1, hw, hget]) | refine wT ?_ | refine wF ?_ | refine wC (fun h => ?_) (fun h => ?_) | refine iK ?_ | refine aI2 ?_ | (refine hK _ ?_; clear hK K) | clear hK K)
                  refine hKJ.to (k + 1, Td.fix y2) ⟨by omega, hcb, hok, ⟨r, hr⟩, hinv⟩ (by simp only; omega) (Fits.fit [(0, 0), (1, 1), (2, 2)] [0, 7, 8, 9, 55, 56, 57] 3 rfl rfl ?_)
                  simp only [go_sem, Td.c, Td.h, Td.list, rnEs_msE, spA, List.map_cons, List.map_nil]
                  exact Fits.rfl
                | vw pre2 todo2 =>
                  simp only [Td.c, Td.h, Td.list] at hget ⊢
                  repeat' (first | refine W.seq fun K hK => ?_ | refine W.block ?_ | ((first | refine wR ?_ | refine wD ?_ | refine W.skip ?_ | refine W.exit ?_ | refine W.ret (Post.ret ?_) | refine aP ?_ | refine aF ?_ | refine aIn ?_ | refine aL ?_ | refine aU (hnn := by simp only [go_sem, reduceCtorEq, List.getElem?_map, hc, spA, e1, hw, hget]) ?_ | refine aXl ?_ | refine aXi ?_ | refine aL ?_ | refine aU (hnn := by simp only [go_sem, reduceCtorEq, List.getElem?_map, hc, spA, e1, hw, hget]) ?_ | refine aM ?_ | refine aN ?_ | refine aR ?_); simp only [go_sem, reduceCtorEq, List.getElem?_map, hc, spA, e1, hw, hget]) | refine wT ?_ | refine wF ?_ | refine wC (fun h => ?_) (fun h => ?_) | refine iK ?_ | refine aI2 ?_ | (refine hK _ ?_; clear hK K) | clear hK K)
                  refine hKJ.to (k + 1, Td.vw pre2 todo2) ⟨by omega, hcb, hok, ⟨r, hr⟩, hinv⟩ (by simp only; omega) (Fits.fit [(0, 0), (1, 1), (2, 2)] [0, 7, 8, 9, 55, 56, 57] 3 rfl rfl ?_)
                  simp only [go_sem, Td.c, Td.h, Td.list, rnEs_msE, spA, List.map_cons, List.map_nil]
                  exact Fits.rfl
              · have hget := msE_out hin
                have hput : mput (Value.int .i64 c.id) (false, [Exe.fl (.bool true)]) (msE (seenD D td.list)) = msE (seenD D (td.list ++ [c])) := by
                  rw [msE_put, addK, if_neg hin]; simp [seenD]
                have hcb2 := hcb.push hym (hfl ▸ hcm) hin
                have hlen2 := hcb2.len
                have hinv := hnext (td.list ++ [c]) (fun z h => by rw [← List.append_assoc]; exact List.mem_append.2 (.inl h)) (by simp)
                cases td with
                | emp => cases hr
                | fix y2 =>
                  simp only [Td.c, Td.h, Td.list] at hget hput hcb2 hlen2 hinv hr ⊢
                  repeat' (first | refine W.stop (id := 19) ?_ | refine W.seq fun K hK => ?_ | refine W.block ?_ | ((first | refine wR ?_ | refine wD ?_ | refine W.skip ?_ | refine W.exit ?_ | refine W.ret (Post.ret ?_) | refine aP ?_ | refine aF ?_ | refine aIn ?_ | refine aL ?_ | refine aU (hnn := by simp only [go_sem, reduceCtorEq, List.getElem?_map, hc, spA, e1, hw, hget, hput]) ?_ | refine aXl ?_ | refine aXi ?_ | refine aL ?_ | refine aU (hnn := by simp only [go_sem, reduceCtorEq, List.getElem?_map, hc, spA, e1, hw, hget, hput]) ?_ | refine aM ?_ | refine aN ?_ | refine aR ?_); simp only [go_sem, reduceCtorEq, List.getElem?_map, hc, spA, e1, hw, hget, hput]) | refine wT ?_ | refine wF ?_ | refine wC (fun h => ?_) (fun h => ?_) | refine iK ?_ | refine aI2 ?_ | (refine hK _ ?_; clear hK K) | clear hK K)
                  refine Stop.out ?_
                  refine W.regE ?_
                  refine ⟨rfl, OpE.ofAOp 930 (by simp [St.used]) ?_⟩
                  simp only [go_sem]
                  refine ⟨rfl, OpE.ofAOp 931 (by simp [St.used]) ?_⟩
                  simp only [go_sem]
                  refine ⟨rfl, OpE.ofAOp 932 (by simp [St.used]) ?_⟩
                  simp only [go_sem]
                  refine ⟨rfl, OpE.appFix 940 (xs := [spA y2]) rfl tL30 tE42 (by decide) (by decide) tZ42 rfl rfl rfl rfl rfl Nat.zero_lt_one (show (1 + 1) * 168 ≤ 140737488355328 by decide) (by simp [St.used]) rfl ?_⟩
                  simp only [go_sem]
                  refine ⟨rfl, OpE.ofAOp 941 (by simp [St.used]) ?_⟩
                  simp only [go_sem]
                  refine ⟨_, Fits.fit [(0, 0), (1, 1), (940, 2)] [0, 7, 8, 9, 55, 56, 57] 3 rfl rfl Fits.rfl, ?_⟩
                  simp only [go_sem, rnEs_msE]
                  repeat' (first | refine W.seq fun K hK => ?_ | refine W.block ?_ | ((first | refine wR ?_ | refine wD ?_ | refine W.skip ?_ | refine W.exit ?_ | refine W.ret (Post.ret ?_) | refine aP ?_ | refine aF ?_ | refine aIn ?_ | refine aL ?_ | refine aU (hnn := by simp only [go_sem, reduceCtorEq, hw]) ?_ | refine aXl ?_ | refine aXi ?_ | refine aL ?_ | refine aU (hnn := by simp only [go_sem, reduceCtorEq, hw]) ?_ | refine aM ?_ | refine aN ?_ | refine aR ?_); simp only [go_sem, reduceCtorEq, hw]) | refine wT ?_ | refine wF ?_ | refine wC (fun h => ?_) (fun h => ?_) | refine iK ?_ | refine aI2 ?_ | (refine hK _ ?_; clear hK K) | clear hK K)
                  refine hKJ.to (k + 1, Td.vw [] [y2, c]) ⟨by omega, hcb2, Nat.zero_le _, ⟨[c], by show [y2, c] = _; rw [(List.cons.inj hr).1]⟩, hinv⟩ (by simp only; omega) (Fits.fit [(0, 0), (1, 1), (2, 2)] [0, 7, 8, 9, 55, 56, 57] 3 rfl rfl ?_)
                  have hrow2 : imR [spA y2] ++ [(spA c).map .im] = imR ([y2, c].map spA) := rfl
                  simp only [spA, List.map] at hrow2
                  simp only [go_sem, rnEs_msE, hrow2]
                  refine Fits.refVw 9 2 rfl rfl tE42 ?_
                  refine Fits.fit [(0, 0), (1, 1), (2, 2)] [0, 7, 8, 9, 55, 56, 57] 3 rfl rfl ?_
                  simp only [go_sem, Td.c, Td.h, Td.list, rnEs_msE, spA, List.map_cons, List.map_nil, imR_len, List.length_cons, List.length_nil, List.nil_append]
                  exact Fits.rfl
                | vw pre2 todo2 =>
                  simp only [Td.c, Td.h, Td.list] at hget hput hcb2 hlen2 hinv hr ⊢
                  have hok' : pre2.length ≤ D.length := hok
                  have htl : 0 < todo2.length := by rw [hr]; simp
                  rw [List.length_append, List.length_singleton] at hlen2
                  repeat' (first | refine W.stop (id := 19) ?_ | refine W.seq fun K hK => ?_ | refine W.block ?_ | ((first | refine wR ?_ | refine wD ?_ | refine W.skip ?_ | refine W.exit ?_ | refine W.ret (Post.ret ?_) | refine aP ?_ | refine aF ?_ | refine aIn ?_ | refine aL ?_ | refine aU (hnn := by simp only [go_sem, reduceCtorEq, List.getElem?_map, hc, spA, e1, hw, hget, hput]) ?_ | refine aXl ?_ | refine aXi ?_ | refine aL ?_ | refine aU (hnn := by simp only [go_sem, reduceCtorEq, List.getElem?_map, hc, spA, e1, hw, hget, hput]) ?_ | refine aM ?_ | refine aN ?_ | refine aR ?_); simp only [go_sem, reduceCtorEq, List.getElem?_map, hc, spA, e1, hw, hget, hput]) | refine wT ?_ | refine wF ?_ | refine wC (fun h => ?_) (fun h => ?_) | refine iK ?_ | refine aI2 ?_ | (refine hK _ ?_; clear hK K) | clear hK K)
                  refine Stop.out ?_
                  refine W.regE ?_
                  refine ⟨rfl, OpE.ofAOp 930 (by simp [St.used]) ?_⟩
                  simp only [go_sem]
                  refine ⟨rfl, OpE.ofAOp 931 (by simp [St.used]) ?_⟩
                  simp only [go_sem]
                  refine ⟨rfl, OpE.ofAOp 932 (by simp [St.used]) ?_⟩
                  simp only [go_sem]
                  refine ⟨rfl, OpE.appV 940 (xs := imR (pre2 ++ todo2.map spA)) rfl tL30 tE42 (by decide) (by decide) tZ42 rfl rfl rfl htl (by rw [imR_len, List.length_append, List.length_map]) rfl rfl Nat.zero_lt_one ?_ (by simp [St.used]) rfl fun pre3 hpre3 => ?_⟩
                  · refine Nat.le_trans (Nat.mul_le_mul_right _ ?_) hl1
                    rw [imR_len, List.length_append, List.length_map]
                    show pre2.length + todo2.length + 1 ≤ _
                    omega
                  simp only [go_sem]
                  refine ⟨rfl, OpE.ofAOp 941 (by simp [St.used]) ?_⟩
                  simp only [go_sem]
                  obtain ⟨pre4, rfl, hp4⟩ : ∃ q : List (List AV), pre3 = imR q ∧ q.length ≤ pre2.length := by
                    rcases hpre3 with rfl | rfl
                    · refine ⟨pre2, ?_, Nat.le_refl _⟩
                      rw [imR, imR, ← List.map_take, List.take_left]
                    · exact ⟨[], rfl, Nat.zero_le _⟩
                  have hrow : imR pre4 ++ (List.drop pre2.length (imR (pre2 ++ todo2.map spA)) ++ [(spA c).map .im]) = imR (pre4 ++ (todo2 ++ [c]).map spA) := by
                    rw [imR, imR, ← List.map_drop, List.drop_left]; simp [imR, imL]
                  rw [show (imR (pre2 ++ todo2.map spA)).drop pre2.length = imR ((pre2 ++ todo2.map spA).drop pre2.length) from by rw [imR, imR, List.map_drop], List.drop_left] at hrow
                  have hdl : (pre2 ++ todo2.map spA).drop pre2.length = todo2.map spA := List.drop_left
                  simp only [spA, List.map] at hrow hdl
                  simp only [imR_len, hdl, hrow]
                  refine ⟨_, Fits.fit [(0, 0), (1, 1), (940, 2)] [0, 7, 8, 9, 55, 56, 57] 3 rfl rfl Fits.rfl, ?_⟩
                  simp only [go_sem, rnEs_msE]
                  repeat' (first | refine W.seq fun K hK => ?_ | refine W.block ?_ | ((first | refine wR ?_ | refine wD ?_ | refine W.skip ?_ | refine W.exit ?_ | refine W.ret (Post.ret ?_) | refine aP ?_ | refine aF ?_ | refine aIn ?_ | refine aL ?_ | refine aU (hnn := by simp only [go_sem, reduceCtorEq, hw]) ?_ | refine aXl ?_ | refine aXi ?_ | refine aL ?_ | refine aU (hnn := by simp only [go_sem, reduceCtorEq, hw]) ?_ | refine aM ?_ | refine aN ?_ | refine aR ?_); simp only [go_sem, reduceCtorEq, hw]) | refine wT ?_ | refine wF ?_ | refine wC (fun h => ?_) (fun h => ?_) | refine iK ?_ | refine aI2 ?_ | (refine hK _ ?_; clear hK K) | clear hK K)
                  refine hKJ.to (k + 1, Td.vw pre4 (todo2 ++ [c])) ⟨by omega, hcb2, Nat.le_trans hp4 hok', ⟨r ++ [c], by show todo2 ++ [c] = _; rw [hr]; rfl⟩, hinv⟩ (by simp only; omega) (Fits.fit [(0, 0), (1, 1), (2, 2)] [0, 7, 8, 9, 55, 56, 57] 3 rfl rfl ?_)
                  simp only [go_sem, Td.c, Td.h, Td.list, rnEs_msE, hrow, imR_len, List.length_append, List.length_cons, List.length_nil]
                  exact Fits.rfl
            · obtain rfl : k = fl.length := by omega
              have e1 : decide ((fl.length : Int) < fl.length) = false := by simp
              clear hKJ
              rw [List.take_length] at htk
              have hcb3 : CB l x (D ++ [y]) r := by rw [hr] at hcb htk; exact hcb.pop (fun c hc => htk c (hfl ▸ hc))
              have hlen := hcb.len
              have hlen3 := hcb3.len
              rw [List.length_append, List.length_singleton] at hlen3
              have hseen : seenD D td.list = seenD (D ++ [y]) r := by rw [hr]; simp [seenD]
              cases td with
              | emp => cases hr
              | fix y2 =>
                simp only [Td.c, Td.h, Td.list] at hr hseen hlen ⊢
                obtain ⟨rfl, rfl⟩ : y2 = y ∧ r = [] := by simpa using hr
                rw [hseen]
                repeat' (first | refine W.seq fun K hK => ?_ | refine W.block ?_ | ((first | refine wR ?_ | refine wD ?_ | refine W.skip ?_ | refine W.exit ?_ | refine W.ret (Post.ret ?_) | refine aP ?_ | refine aF ?_ | refine aIn ?_ | refine aL ?_ | refine aU (hnn := by simp only [go_sem, reduceCtorEq, e1]) ?_ | refine aXl ?_ | refine aXi ?_ | refine aL ?_ | refine aU (hnn := by simp only [go_sem, reduceCtorEq, e1]) ?_ | refine aM ?_ | refine aN ?_ | refine aR ?_); simp only [go_sem, reduceCtorEq, e1]) | refine wT ?_ | refine wF ?_ | refine wC (fun h => ?_) (fun h => ?_) | refine iK ?_ | refine aI2 ?_ | (refine hK _ ?_; clear hK K) | clear hK K)
                refine AX.cutFix (xs := [spA y2]) rfl tL30 tE42 (by decide) rfl rfl rfl (by decide) (show (1 : Int) ≤ ((1 : Nat) : Int) by decide) rfl ?_
                simp only [go_sem]
                repeat' (first | refine W.seq fun K hK => ?_ | refine W.block ?_ | ((first | refine wR ?_ | refine wD ?_ | refine W.skip ?_ | refine W.exit ?_ | refine W.ret (Post.ret ?_) | refine aP ?_ | refine aF ?_ | refine aIn ?_ | refine aL ?_ | refine aU ?_ | refine aXl ?_ | refine aXi ?_ | refine aL ?_ | refine aU ?_ | refine aM ?_ | refine aN ?_ | refine aR ?_); simp only [go_sem, reduceCtorEq]) | refine wT ?_ | refine wF ?_ | refine wC (fun h => ?_) (fun h => ?_) | refine iK ?_ | refine aI2 ?_ | (refine hK _ ?_; clear hK K) | clear hK K)
                refine hKL.to (Td.emp, D ++ [y2]) ⟨hcb3, trivial⟩ (by simp only [List.length_append, List.length_singleton]; omega) (Fits.fit [(0, 0), (1, 1)] [0, 7, 8, 9] 3 rfl rfl ?_)
                simp only [go_sem, Td.c, Td.h, Td.list, rnEs_msE]
                exact Fits.rfl
              | vw pre2 todo2 =>
                have hok' : pre2.length ≤ D.length := hok
                simp only [Td.c, Td.h, Td.list] at hr hseen hlen ⊢
                subst hr
                rw [hseen]
                have f1 : decide ((1 : Int) ≤ ((y :: r).length : Int)) = true := by simp; omega
                repeat' (first | refine W.seq fun K hK => ?_ | refine W.block ?_ | ((first | refine wR ?_ | refine wD ?_ | refine W.skip ?_ | refine W.exit ?_ | refine W.ret (Post.ret ?_) | refine aP ?_ | refine aF ?_ | refine aIn ?_ | refine aL ?_ | refine aU (hnn := by simp only [go_sem, reduceCtorEq, e1, f1, List.length_append, imR_len, List.length_map]) ?_ | refine aXl ?_ | refine aXi ?_ | refine aL ?_ | refine aU (hnn := by simp only [go_sem, reduceCtorEq, e1, f1, List.length_append, imR_len, List.length_map]) ?_ | refine aM ?_ | refine aN ?_ | refine aR ?_); simp only [go_sem, reduceCtorEq, e1, f1, List.length_append, imR_len, List.length_map]) | refine wT ?_ | refine wF ?_ | refine wC (fun h => ?_) (fun h => ?_) | refine iK ?_ | refine aI2 ?_ | (refine hK _ ?_; clear hK K) | clear hK K)
                refine hKL.to (Td.vw (pre2 ++ [spA y]) r, D ++ [y]) ⟨hcb3, by show (pre2 ++ _).length ≤ (D ++ _).length; simp; omega⟩ (by simp only [List.length_append, List.length_singleton]; omega) (Fits.fit [(0, 0), (1, 1), (2, 2)] [0, 7, 8, 9] 3 rfl rfl ?_)
                simp only [go_sem, Td.c, Td.h, Td.list, rnEs_msE, List.append_assoc, List.map_cons, List.cons_append, List.nil_append, List.length_append, List.length_cons, List.length_nil]
                exact Fits.rfl
          clear hK14o hKL c2
          have hsn := outD_snoc l D y
          cases hox : orig l y with
          | false =>
            rw [hox] at c1 hsn
            repeat' (first | refine W.seq fun K hK => ?_ | refine W.block ?_ | ((first | refine wR ?_ | refine wD ?_ | refine W.skip ?_ | refine W.exit ?_ | refine W.ret (Post.ret ?_) | refine aP ?_ | refine aF ?_ | refine aIn ?_ | refine aL ?_ | refine aU (hnn := by simp only [go_sem, reduceCtorEq, spA]) ?_ | refine aXl ?_ | refine aXi ?_ | refine aL ?_ | refine aU (hnn := by simp only [go_sem, reduceCtorEq, spA]) ?_ | refine aM ?_ | refine aN ?_ | refine aR ?_); simp only [go_sem, reduceCtorEq, spA]) | refine wT ?_ | refine wF ?_ | refine wC (fun h => ?_) (fun h => ?_) | refine iK ?_ | refine aI2 ?_ | (refine hK _ ?_; clear hK K) | clear hK K)
            refine hK14 _ (Fits.fit [(0, 0), (1, 1), (2, 2), (9, 3)] [0, 7, 8, 9, 10] 4 rfl rfl ?_)
            simp only [go_sem, hsn, Bool.false_eq_true, if_false, rnEs_msE, spA, List.map]
            exact Fits.rfl
          | true =>
            rw [hox] at c1 hsn
            repeat' (first | refine W.seq fun K hK => ?_ | refine W.block ?_ | ((first | refine wR ?_ | refine wD ?_ | refine W.skip ?_ | refine W.exit ?_ | refine W.ret (Post.ret ?_) | refine aP ?_ | refine aF ?_ | refine aIn ?_ | refine aL ?_ | refine aU (hnn := by simp only [go_sem, reduceCtorEq, spA, imR_len, List.length_map]) ?_ | refine aXl ?_ | refine aXi ?_ | refine aL ?_ | refine aU (hnn := by simp only [go_sem, reduceCtorEq, spA, imR_len, List.length_map]) ?_ | refine aM ?_ | refine aN ?_ | refine aR ?_); simp only [go_sem, reduceCtorEq, spA, imR_len, List.length_map]) | refine wT ?_ | refine wF ?_ | refine wC (fun h => ?_) (fun h => ?_) | refine iK ?_ | refine aI2 ?_ | (refine hK _ ?_; clear hK K) | clear hK K)
            refine hK14 _ (Fits.fit [(18, 0), (1, 1), (2, 2), (9, 3)] [0, 7, 8, 9, 10] 4 rfl rfl ?_)
            simp only [go_sem, hsn, if_true, imR_snocI, rnEs_msE, spA, List.map]
            exact Fits.rfl
  · have e0 : causM l i = ([], 10) := by unfold causM; rw [if_neg hin]
    rw [e0]
    rw [idxN_none hin] at ci
    refine cauP ?_
    refine PCall.intro (nt := 77) (rs := [.tmp 4, .tmp 5]) Tryz.func24 rfl ⟨by kernel_rfl, by kernel_rfl, by kernel_rfl⟩ (by simp) ?_
    rintro ⟨P, w0, ok0, may, np, pblk⟩ rfl rfl
    repeat' (first | refine W.stop (id := 1) ?_ | refine W.seq fun K hK => ?_ | refine W.block ?_ | ((first | refine wR ?_ | refine wD ?_ | refine W.skip ?_ | refine W.exit ?_ | refine W.ret (Post.ret ?_) | refine aP ?_ | refine aF ?_ | refine aIn ?_ | refine aL ?_ | refine aU ?_ | refine aXl ?_ | refine aXi ?_ | refine aL ?_ | refine aU ?_ | refine aM ?_ | refine aN ?_ | refine aR ?_); simp only [go_sem, reduceCtorEq]) | refine wT ?_ | refine wF ?_ | refine wC (fun h => ?_) (fun h => ?_) | refine iK ?_ | refine aI2 ?_ | (refine hK _ ?_; clear hK K) | clear hK K)
    refine Stop.out ?_
    refine W.fits (s' := { t := [(0, spsT l), (3, .c (.ip [.flat (.int .i64 i)]))], h := [], nx := 3, ex := [], nt := 77 }) (Fits.seeP 3 0 rfl rfl rfl (Fits.fit [] [0, 3] 3 rfl rfl Fits.rfl)) ?_
    refine W.regE ?_
    refine ⟨rfl, OpE.ofAOp 900 (by simp [St.used]) ?_⟩
    simp only [go_sem]
    refine ⟨rfl, OpE.makeFnPs rfl rfl rfl ?_⟩
    simp only [go_sem]
    refine ⟨rfl, OpE.ofAOp 901 (by simp [St.used]) ?_⟩
    simp only [go_sem]
    refine aP ?_
    simp only [go_sem]
    refine ⟨rfl, OpE.ofAOp 902 (by simp [St.used]) ?_⟩
    simp only [go_sem]
    refine ⟨_, Fits.fit [] [0, 3, 6] 0 rfl rfl Fits.rfl, ?_⟩
    simp only [go_sem]
    repeat' (first | refine W.seq fun K hK => ?_ | refine W.block ?_ | ((first | refine wR ?_ | refine wD ?_ | refine W.skip ?_ | refine W.exit ?_ | refine W.ret (Post.ret ?_) | refine aP ?_ | refine aF ?_ | refine aIn ?_ | refine aL ?_ | refine aU ?_ | refine aXl ?_ | refine aXi ?_ | refine aL ?_ | refine aU ?_ | refine aM ?_ | refine aN ?_ | refine aR ?_); simp only [go_sem, reduceCtorEq]) | refine wT ?_ | refine wF ?_ | refine wC (fun h => ?_) (fun h => ?_) | refine iK ?_ | refine aI2 ?_ | (refine hK _ ?_; clear hK K) | clear hK K)
end Go.Proofs.YthlimkmjobpjoaaGreat
namespace Go.Proofs.YthlimkmjobpjoaaGreat
open Go.RowKit Go.Exe
/-! ### the document's causes -/
attribute [local irreducible] W AX Run RunD AStep AOp AOpX AStB AStH AStG Fits PCall GCall PostG Post Stop
end Go.Proofs.YthlimkmjobpjoaaGreat
