/-
  Xh: regions: operations in the text's order, or in whatever order their edges allow.
-/
import Derived.Test.YtegcmciglakicaaXg
namespace Go.Exe
open Go.RowKit
set_option linter.unusedVariables false
set_option linter.unusedSimpArgs false

inductive Key where
  | t (i : Nat)
  | h (k : Nat)
inductive Upd where
  | put (d : Nat) (v : TV)
  | new (k : Nat) (o : Obj)
  | del (k : Nat)
  | set (k : Nat) (o : Obj)
def St.up (s : St) : Upd → St
  | .put d v => s.put (some d) v
  | .new k o => s.new k o
  | .del k => s.delO k
  | .set k o => s.putO k o
def St.ups (s : St) : List Upd → St
  | [] => s
  | u :: r => (s.up u).ups r
theorem St.ups_append (s : St) : ∀ (u v : List Upd), s.ups (u ++ v) = (s.ups u).ups v
  | [], _ => rfl
  | x :: r, v => by show (s.up x).ups (r ++ v) = ((s.up x).ups r).ups v; exact St.ups_append _ r v
def Key.beq : Key → Key → Bool
  | .t i, .t j => Nat.beq i j
  | .h i, .h j => Nat.beq i j
  | _, _ => false
theorem Key.beq_iff {x y : Key} : Key.beq x y = true ↔ x = y := by
  cases x <;> cases y <;> simp [Key.beq, Nat.beq_eq]
def Upd.key : Upd → Key
  | .put d _ => .t d
  | .new k _ => .h k
  | .del k => .h k
  | .set k _ => .h k
def Upd.tval : Upd → Nat → Option TV
  | .put d v, i => if d = i then some v else none
  | _, _ => none
def Upd.oval : Upd → Nat → Option (Option Obj)
  | .new k o, j => if k = j then some (some o) else none
  | .set k o, j => if k = j then some (some o) else none
  | .del k, j => if k = j then some none else none
  | _, _ => none
def lastT (i : Nat) : List Upd → Option TV
  | [] => none
  | u :: r => (lastT i r).or (u.tval i)
def lastO (k : Nat) : List Upd → Option (Option Obj)
  | [] => none
  | u :: r => (lastO k r).or (u.oval k)
theorem up_tv (s : St) (u : Upd) (i : Nat) : (s.up u).tv i = (u.tval i).getD (s.tv i) := by
  cases u with
  | put d v => simp only [St.up, Upd.tval, St.tv_put]; split <;> rfl
  | new k o => rfl
  | del k => rfl
  | set k o => rfl
theorem up_ob (s : St) (u : Upd) (j : Nat) : (s.up u).ob j = (u.oval j).getD (s.ob j) := by
  cases u with
  | put d v => rfl
  | new k o => simp only [St.up, Upd.oval, St.ob_new]; split <;> rfl
  | del k => simp only [St.up, Upd.oval, St.ob_delO]; split <;> rfl
  | set k o => simp only [St.up, Upd.oval, St.ob_putO]; split <;> rfl
theorem ups_tv (s : St) (i : Nat) : ∀ us : List Upd, (s.ups us).tv i = (lastT i us).getD (s.tv i)
  | [] => rfl
  | u :: r => by
    simp only [St.ups, lastT]
    rw [ups_tv (s.up u) i r, up_tv]
    cases lastT i r <;> simp
theorem ups_ob (s : St) (k : Nat) : ∀ us : List Upd, (s.ups us).ob k = (lastO k us).getD (s.ob k)
  | [] => rfl
  | u :: r => by
    simp only [St.ups, lastO]
    rw [ups_ob (s.up u) k r, up_ob]
    cases lastO k r <;> simp
theorem lastT_append (i : Nat) : ∀ u v : List Upd, lastT i (u ++ v) = (lastT i v).or (lastT i u)
  | [], v => by simp [lastT]
  | x :: r, v => by simp only [List.cons_append, lastT, lastT_append i r v, Option.or_assoc]
theorem lastO_append (k : Nat) : ∀ u v : List Upd, lastO k (u ++ v) = (lastO k v).or (lastO k u)
  | [], v => by simp [lastO]
  | x :: r, v => by simp only [List.cons_append, lastO, lastO_append k r v, Option.or_assoc]
theorem lastT_none {i : Nat} : ∀ {us : List Upd}, (∀ u ∈ us, u.key ≠ .t i) → lastT i us = none
  | [], _ => rfl
  | u :: r, h => by
    rw [lastT, lastT_none (us := r) (fun x hx => h x (List.mem_cons_of_mem _ hx)), Option.none_or]
    cases u with
    | put d v => simp only [Upd.tval]; rw [if_neg]; intro e; exact h _ List.mem_cons_self (by rw [← e]; rfl)
    | new k o => rfl
    | del k => rfl
    | set k o => rfl
theorem lastO_none {k : Nat} : ∀ {us : List Upd}, (∀ u ∈ us, u.key ≠ .h k) → lastO k us = none
  | [], _ => rfl
  | u :: r, h => by
    rw [lastO, lastO_none (us := r) (fun x hx => h x (List.mem_cons_of_mem _ hx)), Option.none_or]
    cases u with
    | put d v => rfl
    | new j o => simp only [Upd.oval]; rw [if_neg]; intro e; exact h _ List.mem_cons_self (by rw [← e]; rfl)
    | del j => simp only [Upd.oval]; rw [if_neg]; intro e; exact h _ List.mem_cons_self (by rw [← e]; rfl)
    | set j o => simp only [Upd.oval]; rw [if_neg]; intro e; exact h _ List.mem_cons_self (by rw [← e]; rfl)
def Upd.given : Upd → Nat → Prop
  | .new k _, j => k = j
  | _, _ => False
theorem up_used (s : St) (u : Upd) (j : Nat) : (s.up u).used j ↔ u.given j ∨ s.used j := by
  cases u with
  | put d v => simp [St.up, Upd.given, used_put]
  | new k o => simp only [St.up, Upd.given, St.used_new]; constructor <;> (rintro (h | h)) <;> first | exact .inl h.symm | exact .inr h
  | del k => simp [St.up, Upd.given, St.used, St.delO]
  | set k o => simp [St.up, Upd.given, St.used, St.putO]
theorem ups_used (s : St) (j : Nat) : ∀ us : List Upd, (s.ups us).used j ↔ (∃ u ∈ us, u.given j) ∨ s.used j
  | [] => by simp [St.ups]
  | u :: r => by
    simp only [St.ups]
    rw [ups_used (s.up u) j r, up_used]
    simp only [List.mem_cons, exists_eq_or_imp]
    constructor
    · rintro (h | h | h)
      · exact .inl (.inr h)
      · exact .inl (.inl h)
      · exact .inr h
    · rintro ((h | h) | h)
      · exact .inr (.inl h)
      · exact .inl h
      · exact .inr (.inr h)
theorem ups_nt (s : St) : ∀ us : List Upd, (s.ups us).nt = s.nt
  | [] => rfl
  | u :: r => by
    show ((s.up u).ups r).nt = s.nt
    rw [ups_nt (s.up u) r]
    cases u <;> rfl
/-- Two that tell the same. -/
structure Eqv (s s' : St) : Prop where
  tv : ∀ i, s.tv i = s'.tv i
  ob : ∀ k, s.ob k = s'.ob k
  used : ∀ k, s.used k ↔ s'.used k
  nt : s.nt = s'.nt
theorem S_eqv {C : Ctx} {s s' : St} {a : Act} {w : World} (h : S C s a w) (e : Eqv s s') : S C s' a w := by
  obtain ⟨L, h⟩ := h
  have hu : s.used = s'.used := funext fun k => propext (e.used k)
  have ho : okOf C s L = okOf C s' L := by
    funext b
    unfold okOf
    simp only [e.ob]
  refine ⟨L, h.os, h.tape, h.output, h.size, h.kept, e.nt ▸ h.nt, fun i => ?_, fun k o hk => ?_, fun k k' o o' b h1 h2 => h.inj k k' o o' b (e.ob k ▸ h1) (e.ob k' ▸ h2), fun k o b h1 => h.own k o b (e.ob k ▸ h1), h.defers, fun k hk => ⟨(e.used k).1 (h.pin k hk).1, (h.pin k hk).2⟩⟩
  · rw [← e.tv, ← hu, ← ho]; exact h.tm i
  · rw [← e.ob] at hk
    rw [← hu, ← ho]; exact h.ob k o hk
/-- More numbers are given. -/
def St.bump (s : St) (m : Nat) : St := { s with nx := m, ex := [] }
theorem S_bump {C : Ctx} {s : St} {a : Act} {w : World} (h : S C s a w) (m : Nat) (hm : ∀ k, s.used k → k < m) : S C (s.bump m) a w := by
  obtain ⟨L, h⟩ := h
  refine ⟨L, h.next (w' := w) (L' := L) rfl rfl (fun k hk => .inl (hm k hk)) (Where.upto_refl _ _) (fun _ _ => rfl) (fun _ => False) rfl rfl ⟨rfl, Nat.le_refl _⟩ (Nat.le_refl _) (fun _ _ _ => rfl) (fun _ hx => hx.elim) (fun b hb _ => hb) (fun k o hk => .inl ⟨hk, fun _ _ _ hf => hf⟩) h.inj h.own⟩
theorem S_draw {C : Ctx} {s : St} {a : Act} {w : World} (h : S C s a w) (n : Nat) (hn : w.drawn ≤ n) : S C s a { w with drawn := n } := by
  obtain ⟨L, h⟩ := h
  exact ⟨L, h.draw n hn⟩

def agreeOn (F : List Key) (s s1 : St) : Prop := ∀ x ∈ F, match x with | .t i => s1.tv i = s.tv i | .h k => s1.ob k = s.ob k
/-- One operation, its guard with it, at every state that agrees with s on F. -/
def StepOk (C : Ctx) (ops : Array Oper) (n0 i : Nat) (o : Oper) (F : List Key) (U : List Upd) (s : St) : Prop :=
  ∀ s1, agreeOn F s s1 → s1.nt = s.nt → ¬ s1.used (n0 + i) → ∀ a w, S C s1 a w → ∀ next Q, (∀ a' w', S C (s1.ups U) a' w' → next a' w') →
    if Region.wanted o (yielded ops a.tmps) = true then o.wp C.P a w next Q else next (a.put o.dst undef) w
abbrev Trace := List (List Key × List Upd)
def Trace.ups (tr : Trace) : List Upd := (tr.map (·.2)).flatten
def TrOk (C : Ctx) (ops : Array Oper) (n0 : Nat) (s0 : St) (tr : Trace) : Prop :=
  tr.length = ops.size ∧ (∀ i F U o, tr[i]? = some (F, U) → ops[i]? = some o → StepOk C ops n0 i o F U (s0.ups (Trace.ups (tr.take i))) ∧ ∀ u ∈ U, ∀ k, u.given k → k = n0 + i)

/-- A region in the text's order. -/
theorem list_sound {C : Ctx} {ops : Array Oper} {n0 : Nat} {s0 : St} {Q : Exit → Act → World → Prop} (h0 : s0.nx = n0) (hex : s0.ex = []) : ∀ (l : List Oper) (i : Nat) (pre tr : Trace), ops.toList.drop i = l → pre.length = i → TrOk C ops n0 s0 (pre ++ tr) → ∀ a w, S C (s0.ups (Trace.ups pre)) a w →
    (∀ a w, S C (s0.ups (Trace.ups (pre ++ tr))) a w → Q .normal a w) → wpList C.P ops Q l a w
  | [], i, pre, tr, hl, hp, htr, a, w, hs, hq => by
    have : ops.toList.length ≤ i := by
      have := congrArg List.length hl
      simp at this
      simp; omega
    have h1 : tr = [] := by
      have := htr.1
      rw [List.length_append, hp] at this
      simp at *
      exact List.eq_nil_of_length_eq_zero (by omega)
    subst h1
    rw [List.append_nil] at hq
    exact hq a w hs
  | o :: r, i, pre, tr, hl, hp, htr, a, w, hs, hq => by
    have hio : ops[i]? = some o := by
      have : (ops.toList.drop i)[0]? = some o := by rw [hl]; rfl
      simpa using this
    have hlt : i < ops.size := (Array.getElem?_eq_some_iff.1 hio).1
    cases tr with
    | nil => have := htr.1; simp at this; omega
    | cons x tr =>
      obtain ⟨F, U⟩ := x
      have hi : (pre ++ (F, U) :: tr)[i]? = some (F, U) := by rw [List.getElem?_append_right (by omega), hp]; simp
      obtain ⟨hstep, hgiven⟩ := htr.2 i F U o hi hio
      have htk : (pre ++ (F, U) :: tr).take i = pre := by rw [List.take_append, hp]; simp [← hp]
      rw [htk] at hstep
      have hnu : ¬ (s0.ups (Trace.ups pre)).used (n0 + i) := by
        rw [ups_used]
        rintro (⟨u, hu, hg⟩ | h)
        · simp only [Trace.ups, List.mem_flatten, List.mem_map] at hu
          obtain ⟨U', ⟨p, hp2, rfl⟩, hu2⟩ := hu
          obtain ⟨j, hj⟩ := List.getElem?_of_mem hp2
          have hjl : j < pre.length := (List.getElem?_eq_some_iff.1 hj).1
          have hj2 : (pre ++ (F, U) :: tr)[j]? = some p := by rw [List.getElem?_append_left hjl]; exact hj
          obtain ⟨oj, hoj⟩ : ∃ oj, ops[j]? = some oj := ⟨ops[j]'(by omega), Array.getElem?_eq_getElem _⟩
          have := (htr.2 j p.1 p.2 oj hj2 hoj).2 u hu2 _ hg
          omega
        · rcases h with h | h
          · rw [h0] at h; omega
          · rw [hex] at h; cases h
      have hw := hstep (s0.ups (Trace.ups pre)) (fun x _ => by cases x <;> rfl) rfl hnu a w hs (wpList C.P ops Q r) Q (fun a' w' hs' => by
        have e1 : s0.ups (Trace.ups (pre ++ [(F, U)])) = (s0.ups (Trace.ups pre)).ups U := by
          simp only [Trace.ups, List.map_append, List.flatten_append, List.map_cons, List.map_nil, List.flatten_cons, List.flatten_nil, List.append_nil, St.ups_append]
        refine list_sound h0 hex r (i + 1) (pre ++ [(F, U)]) tr (by rw [← List.drop_drop, hl]; rfl) (by simp [hp]) (by simpa using htr) a' w' (by rw [e1]; exact hs') (by simpa using hq))
      unfold wpList
      split
      · rename_i hwt; rw [if_pos hwt] at hw; exact .inl hw
      · rename_i hwt; rw [if_neg hwt] at hw; exact hw

/-! ### whatever order -/
def disj (F : List Key) (U : List Upd) : Bool := F.all fun x => U.all fun u => !Key.beq x u.key
def disjU (U V : List Upd) : Bool := U.all fun u => V.all fun v => !Key.beq u.key v.key
def edgeTo (o : Oper) (j : Nat) : Bool := o.after.toList.any fun e => Nat.beq e.on j && Region.binds .any e
/-- A chain of edges leads from o to j. -/
def reach (L : List Oper) : Nat → Oper → Nat → Bool
  | 0, o, j => edgeTo o j
  | n + 1, o, j => edgeTo o j || o.after.toList.any fun e => Region.binds .any e && (match L[e.on]? with | some o' => reach L n o' j | none => false)
/-- Operations i and j, j ahead of i in the text, no edge between them: neither writes what the other reads or writes. -/
def apart2 (x y : List Key × List Upd) : Bool := disj x.1 y.2 && disj y.1 x.2 && disjU x.2 y.2
def apartAll (L : List Oper) (o : Oper) (x : List Key × List Upd) : Nat → Trace → Bool
  | _, [] => true
  | j, y :: r => (edgeTo o j || (apart2 x y || reach L 4 o j)) && apartAll L o x (j + 1) r
def indep (L : List Oper) : Trace → List Oper → Trace → Bool
  | _, [], _ => true
  | pre, o :: r, x :: tr => apartAll L o x 0 pre && indep L (pre ++ [x]) r tr
  | _, _ :: _, [] => true
theorem edge_reach {L : List Oper} {n : Nat} {o : Oper} {j : Nat} (h : edgeTo o j = true) : reach L n o j = true := by
  cases n <;> simp [reach, h]
theorem apartAll_spec {L : List Oper} {o : Oper} {x : List Key × List Upd} : ∀ {l : Trace} {n : Nat}, apartAll L o x n l = true → ∀ j y, l[j]? = some y → reach L 4 o (n + j) = true ∨ apart2 x y = true
  | [], _, _, j, y, h => by simp at h
  | z :: r, n, h, j, y, hj => by
    simp only [apartAll, Bool.and_eq_true, Bool.or_eq_true] at h
    cases j with
    | zero =>
      simp at hj; subst hj
      rcases h.1 with h1 | h1 | h1
      · exact .inl (edge_reach h1)
      · exact .inr h1
      · exact .inl h1
    | succ j =>
      have := apartAll_spec h.2 j y (by simpa using hj)
      rwa [show n + 1 + j = n + (j + 1) by omega] at this
theorem indep_spec {L : List Oper} : ∀ {l : List Oper} {pre tr : Trace}, indep L pre l tr = true → ∀ i o x, l[i]? = some o → tr[i]? = some x → ∀ j y, j < pre.length + i → (pre ++ tr)[j]? = some y → reach L 4 o j = true ∨ apart2 x y = true
  | [], _, _, _, i, o, x, h, _, _, _, _, _ => by simp at h
  | o :: r, pre, [], _, i, o', x, _, h, _, _, _, _ => by simp at h
  | o :: r, pre, z :: tr, h, i, o', x, ho, hx, j, y, hj, hy => by
    simp only [indep, Bool.and_eq_true] at h
    cases i with
    | zero =>
      simp at ho hx
      subst ho
      subst hx
      rw [List.getElem?_append_left (by omega)] at hy
      have := apartAll_spec h.1 j y hy
      rwa [Nat.zero_add] at this
    | succ i => exact indep_spec h.2 i o' x (by simpa using ho) (by simpa using hx) j y (by simp; omega) (by simpa using hy)
theorem disj_spec {F : List Key} {U : List Upd} (h : disj F U = true) : ∀ x ∈ F, ∀ u ∈ U, u.key ≠ x := by
  intro x hx u hu e
  have := List.all_eq_true.1 (List.all_eq_true.1 h x hx) u hu
  rw [Key.beq_iff.2 e.symm] at this
  simp at this
theorem disjU_spec {U V : List Upd} (h : disjU U V = true) : ∀ u ∈ U, ∀ v ∈ V, v.key ≠ u.key := by
  intro u hu v hv e
  have := List.all_eq_true.1 (List.all_eq_true.1 h u hu) v hv
  rw [Key.beq_iff.2 e.symm] at this
  simp at this
/-- What the operations that have been carried out leave. -/
def acc (D : Nat → Bool) : Nat → Trace → List Upd
  | _, [] => []
  | n, x :: r => (if D n = true then x.2 else []) ++ acc D (n + 1) r
theorem acc_mem {D : Nat → Bool} {u : Upd} : ∀ {tr : Trace} {n : Nat}, u ∈ acc D n tr → ∃ j x, tr[j]? = some x ∧ D (n + j) = true ∧ u ∈ x.2
  | [], n, h => by simp [acc] at h
  | x :: r, n, h => by
    simp only [acc, List.mem_append] at h
    rcases h with h | h
    · split at h
      · rename_i hd; exact ⟨0, x, rfl, hd, h⟩
      · simp at h
    · obtain ⟨j, y, h1, h2, h3⟩ := acc_mem h
      exact ⟨j + 1, y, by simpa using h1, by rw [show n + (j + 1) = n + 1 + j by omega]; exact h2, h3⟩
theorem acc_none {D : Nat → Bool} : ∀ (tr : Trace) (n : Nat), (∀ j, n ≤ j → D j = false) → acc D n tr = []
  | [], _, _ => rfl
  | x :: r, n, h => by simp [acc, h n (Nat.le_refl _), acc_none r (n + 1) fun j hj => h j (by omega)]
theorem acc_all {D : Nat → Bool} : ∀ (tr : Trace) (n : Nat), (∀ j, j < tr.length → D (n + j) = true) → acc D n tr = Trace.ups tr
  | [], _, _ => rfl
  | x :: r, n, h => by
    have h0 := h 0 (by simp)
    rw [Nat.add_zero] at h0
    simp only [acc, h0, if_true]
    have ih := acc_all (D := D) r (n + 1) fun j hj => by rw [show n + 1 + j = n + (j + 1) by omega]; exact h (j + 1) (by simp; omega)
    rw [ih]
    simp [Trace.ups]
theorem acc_ext {D D' : Nat → Bool} : ∀ (tr : Trace) (n : Nat), (∀ j, j < tr.length → D (n + j) = D' (n + j)) → acc D n tr = acc D' n tr
  | [], _, _ => rfl
  | x :: r, n, h => by
    have h0 := h 0 (by simp)
    rw [Nat.add_zero] at h0
    have ih := acc_ext (D := D) (D' := D') r (n + 1) fun j hj => by rw [show n + 1 + j = n + (j + 1) by omega]; exact h (j + 1) (by simp; omega)
    simp only [acc, h0, ih]
theorem acc_append {D : Nat → Bool} : ∀ (l m : Trace) (n : Nat), acc D n (l ++ m) = acc D n l ++ acc D (n + l.length) m
  | [], m, n => by simp [acc]
  | x :: r, m, n => by
    simp only [List.cons_append, acc, List.append_assoc, List.length_cons]
    rw [acc_append r m (n + 1), show n + 1 + r.length = n + (r.length + 1) by omega]

theorem acc_tv_ne {D : Nat → Bool} {i : Nat} {tr : Trace} {n : Nat} (h : ∀ j x, tr[j]? = some x → D (n + j) = true → ∀ u ∈ x.2, u.key ≠ .t i) : lastT i (acc D n tr) = none := lastT_none fun u hu => by
  obtain ⟨j, x, h1, h2, h3⟩ := acc_mem hu
  exact h j x h1 h2 u h3
theorem acc_ob_ne {D : Nat → Bool} {k : Nat} {tr : Trace} {n : Nat} (h : ∀ j x, tr[j]? = some x → D (n + j) = true → ∀ u ∈ x.2, u.key ≠ .h k) : lastO k (acc D n tr) = none := lastO_none fun u hu => by
  obtain ⟨j, x, h1, h2, h3⟩ := acc_mem hu
  exact h j x h1 h2 u h3
/-- Where only operations whose writes miss a key are left out or put in, the key reads the same. -/
theorem acc_tv_cong {D D' : Nat → Bool} {i : Nat} : ∀ (tr : Trace) (n : Nat), (∀ j x, tr[j]? = some x → D (n + j) ≠ D' (n + j) → ∀ u ∈ x.2, u.key ≠ .t i) → lastT i (acc D n tr) = lastT i (acc D' n tr)
  | [], _, _ => rfl
  | x :: r, n, h => by
    have ih := acc_tv_cong r (n + 1) fun j y hy hne => h (j + 1) y (by simpa using hy) (by rwa [show n + (j + 1) = n + 1 + j by omega])
    simp only [acc, lastT_append, ih]
    congr 1
    by_cases he : D n = D' n
    · rw [he]
    · have h0 := h 0 x rfl (by simpa using he)
      have := lastT_none (us := x.2) h0
      cases D n <;> cases D' n <;> simp_all [lastT]
theorem acc_ob_cong {D D' : Nat → Bool} {i : Nat} : ∀ (tr : Trace) (n : Nat), (∀ j x, tr[j]? = some x → D (n + j) ≠ D' (n + j) → ∀ u ∈ x.2, u.key ≠ .h i) → lastO i (acc D n tr) = lastO i (acc D' n tr)
  | [], _, _ => rfl
  | x :: r, n, h => by
    have ih := acc_ob_cong r (n + 1) fun j y hy hne => h (j + 1) y (by simpa using hy) (by rwa [show n + (j + 1) = n + 1 + j by omega])
    simp only [acc, lastO_append, ih]
    congr 1
    by_cases he : D n = D' n
    · rw [he]
    · have h0 := h 0 x rfl (by simpa using he)
      have := lastO_none (us := x.2) h0
      cases D n <;> cases D' n <;> simp_all [lastO]
/-- Every edge leads back. -/
def backs : Nat → List Oper → Bool
  | _, [] => true
  | i, o :: r => (o.after.toList.all fun e => !Region.binds .any e || Nat.blt e.on i) && backs (i + 1) r
theorem backs_spec : ∀ {l : List Oper} {n : Nat}, backs n l = true → ∀ i o, l[i]? = some o → ∀ e ∈ o.after, Region.binds .any e = true → e.on < n + i
  | [], _, _, i, o, h, _, _, _ => by simp at h
  | o :: r, n, h, i, o', ho, e, he, hb => by
    simp only [backs, Bool.and_eq_true] at h
    cases i with
    | zero =>
      simp at ho
      subst ho
      have := List.all_eq_true.1 h.1 e (by simpa using he)
      rw [hb] at this
      simp only [Bool.not_true, Bool.false_or] at this
      exact Nat.le_of_ble_eq_true this
    | succ i => have := backs_spec h.2 i o' (by simpa using ho) e he hb; omega
theorem edgeTo_spec {o : Oper} {j : Nat} (h : edgeTo o j = true) : ∃ e ∈ o.after, e.on = j ∧ Region.binds .any e = true := by
  obtain ⟨e, he, h⟩ := List.any_eq_true.1 h
  simp only [Bool.and_eq_true] at h
  exact ⟨e, by simpa using he, beq_t h.1, h.2⟩
theorem countP_lt {p q : Nat → Bool} (hq : ∀ j, q j = true → p j = true) {i : Nat} (hp : p i = true) (hqi : q i = false) : ∀ {l : List Nat}, i ∈ l → l.countP q < l.countP p
  | [], h => by simp at h
  | x :: r, h => by
    have hle : r.countP q ≤ r.countP p := List.countP_mono_left fun j _ hj => hq j hj
    simp only [List.countP_cons]
    rcases List.mem_cons.1 h with rfl | h
    · rw [hp, hqi]; simp; omega
    · have ih := countP_lt hq hp hqi h
      cases hqx : q x with
      | true => rw [hq x hqx]; simp; exact ih
      | false => simp; omega
/-- A REGION THAT DRAWS ITS ORDER: what its text gives is what every order gives. -/
theorem any_sound {C : Ctx} {ops : Array Oper} {n0 : Nat} {s0 : St} {Q : Exit → Act → World → Prop} (h0 : s0.nx = n0) (hex : s0.ex = []) {tr : Trace} (htr : TrOk C ops n0 s0 tr) (hind : indep ops.toList [] ops.toList tr = true) (hback : backs 0 ops.toList = true)
    (hq : ∀ a w, S C (s0.ups (Trace.ups tr)) a w → Q .normal a w) : ∀ (fuel : Nat) (listed : Array Bool) (a : Act) (w : World), listed.size = ops.size →
      (∀ j, listed.getD j false = true → ∀ o, ops[j]? = some o → ∀ e ∈ o.after, Region.binds .any e = true → listed.getD e.on false = true) →
      (List.range ops.size).countP (fun j => !listed.getD j false) ≤ fuel → S C (s0.ups (acc (fun j => listed.getD j false) 0 tr)) a w → wpAny C.P .any ops Q fuel listed a w := by
  have hopl : ∀ (j : Nat) (o : Oper), ops[j]? = some o ↔ ops.toList[j]? = some o := fun j o => by simp
  have hall : ∀ listed : Array Bool, listed.size = ops.size → Region.ready .any ops listed = [] → ∀ j, j < ops.size → listed.getD j false = true := by
    intro listed hsz hr j
    induction j using Nat.strongRecOn with
    | _ j ih =>
      intro hj
      cases hd : listed.getD j false with
      | true => rfl
      | false =>
        exfalso
        have hjl : j < listed.size := by omega
        have hmem : j ∈ Region.ready .any ops listed := by
          rw [mem_ready]
          refine ⟨?_, ops[j], Array.getElem?_eq_getElem hj, fun e he hb => ?_⟩
          · simp [Array.getD, hjl] at hd ⊢; exact hd
          · have := backs_spec hback j ops[j] ((hopl _ _).1 (Array.getElem?_eq_getElem hj)) e he hb
            exact ih e.on (by omega) (by omega)
        rw [hr] at hmem
        cases hmem
  have hfin : ∀ (listed : Array Bool), listed.size = ops.size → Region.ready .any ops listed = [] → ∀ a w, S C (s0.ups (acc (fun j => listed.getD j false) 0 tr)) a w → Q .normal a w := by
    intro listed hsz hr a w hs
    refine hq a w ?_
    have hl := hall listed hsz hr
    rwa [acc_all tr 0 (fun j hj => by rw [Nat.zero_add]; exact hl j (by rw [← htr.1]; exact hj))] at hs
  intro fuel
  induction fuel with
  | zero =>
    intro listed a w hsz hdown hcnt hs
    have hr : Region.ready .any ops listed = [] := by
      rw [List.eq_nil_iff_forall_not_mem]
      intro j hj
      obtain ⟨h1, o, ho, _⟩ := mem_ready.1 hj
      have hjl : j < ops.size := (Array.getElem?_eq_some_iff.1 ho).1
      have h2 : listed.getD j false = false := by simp [Array.getD, show j < listed.size by omega] at h1 ⊢; exact h1
      have : 0 < (List.range ops.size).countP (fun j => !listed.getD j false) := List.countP_pos_iff.2 ⟨j, List.mem_range.2 hjl, by rw [h2]; rfl⟩
      omega
    exact ⟨hr, hfin listed hsz hr a w hs⟩
  | succ fuel ih =>
    intro listed a w hsz hdown hcnt hs
    refine ⟨fun hr => hfin listed hsz hr a w hs, fun i hi => ?_⟩
    obtain ⟨hli, o, ho, hpre⟩ := mem_ready.1 hi
    have hil : i < ops.size := (Array.getElem?_eq_some_iff.1 ho).1
    have hlf : listed.getD i false = false := by simp [Array.getD, show i < listed.size by omega] at hli ⊢; exact hli
    obtain ⟨x, hx⟩ : ∃ x, tr[i]? = some x := ⟨tr[i]'(by rw [htr.1]; exact hil), List.getElem?_eq_getElem _⟩
    obtain ⟨F, U⟩ := x
    obtain ⟨hstep, hgiven⟩ := htr.2 i F U o hx ho
    have hreach : ∀ (n k : Nat) (ok : Oper) (m : Nat), ops[k]? = some ok → (∀ e ∈ ok.after, Region.binds .any e = true → listed.getD e.on false = true) → reach ops.toList n ok m = true → listed.getD m false = true := by
      intro n
      induction n with
      | zero =>
        intro k ok m hk hp h
        obtain ⟨e, he, hon, hb⟩ := edgeTo_spec h
        rw [← hon]; exact hp e he hb
      | succ n ihn =>
        intro k ok m hk hp h
        simp only [reach, Bool.or_eq_true] at h
        rcases h with h | h
        · obtain ⟨e, he, hon, hb⟩ := edgeTo_spec h
          rw [← hon]; exact hp e he hb
        · obtain ⟨e, he, h⟩ := List.any_eq_true.1 h
          simp only [Bool.and_eq_true] at h
          obtain ⟨hb, h⟩ := h
          cases hoe : ops.toList[e.on]? with
          | none => rw [hoe] at h; cases h
          | some oe =>
            rw [hoe] at h
            have hoe' := (hopl _ _).2 hoe
            exact ihn e.on oe m hoe' (fun e' he' hb' => hdown e.on (hp e (by simpa using he) hb) oe hoe' e' he' hb') h
    -- an operation that is not carried out, or that is and comes behind in the text, does not touch what this one reads or writes
    have hap : ∀ j y, tr[j]? = some y → j ≠ i → (listed.getD j false = true ∧ i < j ∨ listed.getD j false = false ∧ j < i) → (∀ k ∈ F, ∀ u ∈ y.2, u.key ≠ k) ∧ (∀ u ∈ U, ∀ v ∈ y.2, v.key ≠ u.key) := by
      intro j y hy hne hor
      have hjl : j < ops.size := by rw [← htr.1]; exact (List.getElem?_eq_some_iff.1 hy).1
      rcases hor with ⟨hlj, hij⟩ | ⟨hlj, hij⟩
      · have hoj : ops.toList[j]? = some ops[j] := (hopl _ _).1 (Array.getElem?_eq_getElem hjl)
        rcases indep_spec hind j ops[j] y hoj hy i (F, U) (by simpa using hij) (by simpa using hx) with h | h
        · have := hreach 4 j ops[j] i (Array.getElem?_eq_getElem hjl) (fun e he hb => hdown j hlj ops[j] (Array.getElem?_eq_getElem hjl) e he hb) h
          rw [hlf] at this
          cases this
        · simp only [apart2, Bool.and_eq_true] at h
          refine ⟨fun k hk u hu => disj_spec h.1.2 k hk u hu, fun u hu v hv e => disjU_spec h.2 v hv u hu e.symm⟩
      · rcases indep_spec hind i o (F, U) ((hopl _ _).1 ho) hx j y (by simpa using hij) (by simpa using hy) with h | h
        · have := hreach 4 i o j ho hpre h
          rw [hlj] at this
          cases this
        · simp only [apart2, Bool.and_eq_true] at h
          exact ⟨fun k hk u hu => disj_spec h.1.1 k hk u hu, fun u hu v hv => disjU_spec h.2 u hu v hv⟩
    have hpre_acc : Trace.ups (tr.take i) = acc (fun j => Nat.blt j i) 0 tr := by
      have h1 : acc (fun j => Nat.blt j i) 0 tr = acc (fun j => Nat.blt j i) 0 (tr.take i ++ tr.drop i) := by rw [List.take_append_drop]
      rw [h1, acc_append, acc_none (tr.drop i), List.append_nil, acc_all]
      · intro j hj
        rw [List.length_take] at hj
        rw [Nat.zero_add]
        exact Nat.ble_eq_true_of_le (by omega)
      · intro j hj
        rw [List.length_take] at hj
        cases hb : Nat.blt j i with
        | false => rfl
        | true => have := Nat.le_of_ble_eq_true hb; have := htr.1; omega
    have hagree : agreeOn F (s0.ups (Trace.ups (tr.take i))) (s0.ups (acc (fun j => listed.getD j false) 0 tr)) := by
      intro k hk
      have hcase : ∀ j y, tr[j]? = some y → (fun j => listed.getD j false) (0 + j) ≠ (fun j => Nat.blt j i) (0 + j) → ∀ u ∈ y.2, u.key ≠ k := by
        intro j y hy hne u hu
        simp only [Nat.zero_add] at hne
        have hne2 : j ≠ i := by
          intro e
          subst e
          rw [hlf] at hne
          exact hne (by cases hb : Nat.blt j j with
            | false => rfl
            | true => have := Nat.le_of_ble_eq_true hb; omega)
        refine (hap j y hy hne2 ?_).1 k hk u hu
        cases hlj : listed.getD j false with
        | true =>
          refine .inl ⟨rfl, ?_⟩
          rw [hlj] at hne
          rcases Nat.lt_or_ge j i with h | h
          · exact absurd (Nat.ble_eq_true_of_le (show j + 1 ≤ i by omega)).symm hne
          · omega
        | false =>
          refine .inr ⟨rfl, ?_⟩
          rw [hlj] at hne
          cases hb : Nat.blt j i with
          | false => exact absurd hb.symm hne
          | true => have := Nat.le_of_ble_eq_true hb; omega
      cases k with
      | t q => simp only; rw [ups_tv, ups_tv, hpre_acc, acc_tv_cong (D := fun j => listed.getD j false) (D' := fun j => Nat.blt j i) tr 0 hcase]
      | h q => simp only; rw [ups_ob, ups_ob, hpre_acc, acc_ob_cong (D := fun j => listed.getD j false) (D' := fun j => Nat.blt j i) tr 0 hcase]
    have hnu : ¬ (s0.ups (acc (fun j => listed.getD j false) 0 tr)).used (n0 + i) := by
      rw [ups_used]
      rintro (⟨u, hu, hg⟩ | h)
      · obtain ⟨j, y, h1, h2, h3⟩ := acc_mem hu
        rw [Nat.zero_add] at h2
        have hjl : j < ops.size := by rw [← htr.1]; exact (List.getElem?_eq_some_iff.1 h1).1
        have := (htr.2 j y.1 y.2 ops[j] h1 (Array.getElem?_eq_getElem hjl)).2 u h3 _ hg
        have : j = i := by omega
        subst this
        simp only [hlf] at h2
        cases h2
      · rcases h with h | h
        · rw [h0] at h; omega
        · rw [hex] at h; cases h
    have hnext : ∀ a' w', S C ((s0.ups (acc (fun j => listed.getD j false) 0 tr)).ups U) a' w' → wpAny C.P .any ops Q fuel (listed.setIfInBounds i true) a' w' := by
      intro a' w' hs'
      have hget : ∀ j, (listed.setIfInBounds i true).getD j false = if i = j then true else listed.getD j false := by
        intro j
        by_cases hij : i = j
        · subst hij; simp [Array.getD, show i < listed.size by omega]
        · rw [getD_set_ne false hij, if_neg hij]
      refine ih _ a' w' (by simp [hsz]) ?_ ?_ ?_
      · intro j hj oj hoj e he hb
        rw [hget] at hj ⊢
        split
        · rfl
        · by_cases hij : i = j
          · subst hij
            have : oj = o := Option.some.inj (hoj.symm.trans ho)
            subst this
            exact hpre e he hb
          · rw [if_neg hij] at hj
            exact hdown j hj oj hoj e he hb
      · have h1 : (List.range ops.size).countP (fun j => !(listed.setIfInBounds i true).getD j false) < (List.range ops.size).countP (fun j => !listed.getD j false) := by
          refine countP_lt (fun j hj => ?_) (i := i) (by rw [hlf]; rfl) (by rw [hget, if_pos rfl]; rfl) (List.mem_range.2 hil)
          rw [hget] at hj
          split at hj
          · simp at hj
          · exact hj
        omega
      · refine S_eqv hs' ?_
        have hsplit : tr = tr.take i ++ (F, U) :: tr.drop (i + 1) := by
          have h1 : tr.drop i = (F, U) :: tr.drop (i + 1) := by
            rw [List.drop_eq_getElem_cons (by rw [htr.1]; exact hil)]
            congr 1
            exact (List.getElem?_eq_some_iff.1 hx).2
          rw [← h1, List.take_append_drop]
        have htl : (tr.take i).length = i := by rw [List.length_take, htr.1]; omega
        have e1 : acc (fun j => listed.getD j false) 0 tr = acc (fun j => listed.getD j false) 0 (tr.take i) ++ acc (fun j => listed.getD j false) (i + 1) (tr.drop (i + 1)) := by
          conv => lhs; rw [hsplit]
          rw [acc_append, htl, Nat.zero_add]
          simp only [acc, hlf]
          simp
        have e2 : acc (fun j => (listed.setIfInBounds i true).getD j false) 0 tr = acc (fun j => listed.getD j false) 0 (tr.take i) ++ (U ++ acc (fun j => listed.getD j false) (i + 1) (tr.drop (i + 1))) := by
          conv => lhs; rw [hsplit]
          rw [acc_append, htl, Nat.zero_add]
          simp only [acc]
          rw [hget i, if_pos rfl, if_pos rfl]
          congr 1
          · refine acc_ext _ _ fun j hj => ?_
            rw [htl] at hj
            rw [Nat.zero_add, hget, if_neg (by omega)]
          · congr 1
            refine acc_ext _ _ fun j hj => ?_
            rw [hget, if_neg (by omega)]
        have hrest : ∀ k, (∃ u ∈ U, u.key = k) → ∀ v ∈ acc (fun j => listed.getD j false) (i + 1) (tr.drop (i + 1)), v.key ≠ k := by
          rintro k ⟨u, hu, rfl⟩ v hv
          obtain ⟨j, y, h1, h2, h3⟩ := acc_mem hv
          rw [List.getElem?_drop] at h1
          exact (hap _ y h1 (by omega) (.inl ⟨h2, by omega⟩)).2 u hu v h3
        refine ⟨fun k => ?_, fun k => ?_, fun k => ?_, by rw [ups_nt, ups_nt, ups_nt]⟩
        · rw [ups_tv, ups_tv, ups_tv, e1, e2]
          simp only [lastT_append]
          by_cases h : ∃ u ∈ U, u.key = .t k
          · rw [lastT_none (hrest _ h)]
            simp only [Option.none_or]
            cases lastT k U <;> simp
          · rw [lastT_none (us := U) (fun u hu e => h ⟨u, hu, e⟩)]
            simp
        · rw [ups_ob, ups_ob, ups_ob, e1, e2]
          simp only [lastO_append]
          by_cases h : ∃ u ∈ U, u.key = .h k
          · rw [lastO_none (hrest _ h)]
            simp only [Option.none_or]
            cases lastO k U <;> simp
          · rw [lastO_none (us := U) (fun u hu e => h ⟨u, hu, e⟩)]
            simp
        · rw [ups_used, ups_used, ups_used, e1, e2]
          simp only [List.mem_append]
          constructor
          · rintro (⟨u, h, hg⟩ | ⟨u, h | h, hg⟩ | h)
            · exact .inl ⟨u, .inr (.inl h), hg⟩
            · exact .inl ⟨u, .inl h, hg⟩
            · exact .inl ⟨u, .inr (.inr h), hg⟩
            · exact .inr h
          · rintro (⟨u, h | h | h, hg⟩ | h)
            · exact .inr (.inl ⟨u, .inl h, hg⟩)
            · exact .inl ⟨u, h, hg⟩
            · exact .inr (.inl ⟨u, .inr h, hg⟩)
            · exact .inr (.inr h)
    have := hstep _ hagree (by rw [ups_nt, ups_nt]) hnu a w hs (wpAny C.P .any ops Q fuel (listed.setIfInBounds i true)) Q hnext
    unfold wpOp
    rw [ho]
    simp only
    split
    · rename_i hw; rw [if_pos hw] at this; exact .inl this
    · rename_i hw; rw [if_neg hw] at this; exact this
end Go.Exe
