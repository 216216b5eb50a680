/-
  Xs: a call of a function that writes what is handed in: what the caller sees.
-/
import Derived.Test.YtegcmciglakicaaXr
namespace Go.Exe
open Go.RowKit
set_option linter.unusedVariables false
set_option linter.unusedSimpArgs false

def St.g (args : List TV) (h : List (Nat × Obj)) (nx : Nat) : St := { t := idx 0 args, h := h, nx := nx, ex := [], nt := args.length }
def St.r (r : TV) (h : List (Nat × Obj)) (nx : Nat) : St := { t := [(0, r)], h := h, nx := nx, ex := [], nt := 1 }
def gArgs (σ : Ren) (s : St) : List Operand → List TV
  | [] => []
  | y :: r => rnT σ (s.ev y) :: gArgs σ s r
/-- The caller's numbers of the objects handed in, as the callee's; and back. -/
def frC : Nat → List Nat → Ren
  | _, [] => []
  | n, k :: l => (k, n) :: frC (n + 1) l
def toC (r : List Nat) (np k : Nat) : Option Obj → Ren
  | some _ => idx 0 (r.take np) ++ [(np, k)]
  | none => idx 0 (r.take np)
def gDels : List Nat → List Upd
  | [] => []
  | k :: l => .del k :: gDels l
def gNew (τ : Ren) (k : Nat) : Option Obj → List Upd
  | some o => (match rnO τ o with | some o' => [.new k o'] | none => [])
  | none => []
def gSets (τ : Ren) (s1 : St) : Nat → List Nat → List Upd
  | _, [] => []
  | i, k :: l => (match s1.ob i with
    | some o => (match rnO τ o with | some o' => .set k o' :: gSets τ s1 (i + 1) l | none => .del k :: gSets τ s1 (i + 1) l)
    | none => .del k :: gSets τ s1 (i + 1) l)
def gUpd (r : List Nat) (np k : Nat) (s1 : St) : List Upd := gDels (r.drop np) ++ (gNew (toC r np k (s1.ob np)) k (s1.ob np) ++ gSets (toC r np k (s1.ob np)) s1 0 (r.take np))
def ownAll (s : St) : List Nat → Bool
  | [] => true
  | k :: l => (match s.ob k with | some o => o.owns | none => false) && ownAll s l
def hKeys : List Nat → List Key
  | [] => []
  | k :: l => .h k :: hKeys l

theorem lk_frC : ∀ (l : List Nat) (n k : Nat), l.Nodup → ∀ i, l[i]? = some k → lk (frC n l) k = some (n + i)
  | [], n, k, _, i, h => by simp at h
  | x :: l, n, k, hn, i, h => by
    simp only [frC, lk]
    cases i with
    | zero => simp at h; subst h; simp
    | succ i =>
      have hm : k ∈ l := List.mem_of_getElem? (by simpa using h)
      rw [beq_ne (show x ≠ k by rintro rfl; exact (List.nodup_cons.1 hn).1 hm)]
      simp only [cond_false]
      rw [lk_frC l (n + 1) k (List.nodup_cons.1 hn).2 i (by simpa using h)]
      congr 1; omega
theorem lk_frC_some : ∀ (l : List Nat) (n k j : Nat), lk (frC n l) k = some j → ∃ i, l[i]? = some k ∧ j = n + i
  | [], n, k, j, h => by simp [frC, lk] at h
  | x :: l, n, k, j, h => by
    simp only [frC, lk] at h
    cases hb : Nat.beq x k with
    | true => rw [hb] at h; simp at h; exact ⟨0, by simp [beq_t hb], by omega⟩
    | false =>
      rw [hb] at h; simp only [cond_false] at h
      obtain ⟨i, h1, h2⟩ := lk_frC_some l (n + 1) k j h
      exact ⟨i + 1, by simpa using h1, by omega⟩
theorem lk_append {α : Type} (l m : List (Nat × α)) (i : Nat) : lk (l ++ m) i = (lk l i).or (lk m i) := by
  induction l with
  | nil => simp [lk]
  | cons p l ih =>
    simp only [List.cons_append, lk]
    cases Nat.beq p.1 i <;> simp [ih]
theorem rnO_some (r : Ren) (o : Obj) : ∃ o', rnO r o = some o' := by cases o <;> exact ⟨_, rfl⟩
theorem lastO_gDels (j : Nat) : ∀ l : List Nat, lastO j (gDels l) = if j ∈ l then some none else none
  | [] => by simp [gDels, lastO]
  | k :: l => by
    have e : gDels (k :: l) = [.del k] ++ gDels l := rfl
    rw [e, lastO_append, lastO_gDels j l]
    by_cases h : j ∈ l
    · simp [h]
    · by_cases h2 : k = j
      · subst h2; simp [h, lastO, Upd.oval]
      · simp [h, lastO, Upd.oval, h2, show ¬ j = k from fun e => h2 e.symm]
theorem lastO_gNew (τ : Ren) (k j : Nat) (x : Option Obj) : lastO j (gNew τ k x) = if j = k then (x.bind (rnO τ)).map some else none := by
  cases x with
  | none => simp [gNew, lastO]
  | some o =>
    obtain ⟨o', h⟩ := rnO_some τ o
    simp only [gNew, h, Option.bind_some, Option.map_some]
    by_cases h2 : k = j
    · subst h2; simp [lastO, Upd.oval]
    · simp [lastO, Upd.oval, h2, show ¬ j = k from fun e => h2 e.symm]
theorem lastO_gSets (τ : Ren) (s1 : St) (j : Nat) : ∀ (l : List Nat) (n : Nat), (j ∉ l → lastO j (gSets τ s1 n l) = none) ∧ (l.Nodup → ∀ i, l[i]? = some j → lastO j (gSets τ s1 n l) = some ((s1.ob (n + i)).bind (rnO τ)))
  | [], n => ⟨fun _ => rfl, fun _ i h => by simp at h⟩
  | k :: l, n => by
    have ⟨h1, h2⟩ := lastO_gSets τ s1 j l (n + 1)
    have e : ∃ u, gSets τ s1 n (k :: l) = [u] ++ gSets τ s1 (n + 1) l ∧ lastO j [u] = if k = j then some ((s1.ob n).bind (rnO τ)) else none := by
      simp only [gSets]
      cases ho : s1.ob n with
      | none => exact ⟨_, rfl, by simp only [lastO, Upd.oval]; split <;> simp_all⟩
      | some o =>
        obtain ⟨o', h⟩ := rnO_some τ o
        simp only [h, Option.bind_some]
        exact ⟨_, rfl, by simp only [lastO, Upd.oval]; split <;> simp_all⟩
    obtain ⟨u, e1, e2⟩ := e
    rw [e1, lastO_append, e2]
    refine ⟨fun h => ?_, fun hn i hi => ?_⟩
    · simp only [List.mem_cons, not_or] at h
      rw [h1 h.2]; simp [show ¬ k = j from fun e => h.1 e.symm]
    · cases i with
      | zero =>
        simp at hi; subst hi
        rw [h1 (List.nodup_cons.1 hn).1]; simp
      | succ i =>
        rw [h2 (List.nodup_cons.1 hn).2 i (by simpa using hi)]
        simp [show n + 1 + i = n + (i + 1) by omega]
def noPut : List Upd → Prop := fun us => ∀ u ∈ us, ∀ d v, u ≠ .put d v
theorem ups_t : ∀ {us : List Upd} {s : St}, noPut us → (s.ups us).t = s.t
  | [], s, _ => rfl
  | u :: r, s, h => by
    show ((s.up u).ups r).t = s.t
    rw [ups_t fun x hx => h x (by simp [hx])]
    cases u with
    | put d v => exact absurd rfl (h _ (by simp) d v)
    | _ => rfl
theorem noPut_gUpd (r : List Nat) (np k : Nat) (s1 : St) : noPut (gUpd r np k s1) := by
  have h1 : ∀ l, noPut (gDels l) := by
    intro l
    induction l with
    | nil => intro u hu; simp [gDels] at hu
    | cons k l ih => intro u hu d v; simp only [gDels, List.mem_cons] at hu; rcases hu with rfl | hu; simp; exact ih u hu d v
  have h2 : ∀ τ k x, noPut (gNew τ k x) := by
    intro τ k x u hu d v
    cases x with
    | none => simp [gNew] at hu
    | some o => obtain ⟨o', h⟩ := rnO_some τ o; simp [gNew, h] at hu; subst hu; simp
  have h3 : ∀ τ l n, noPut (gSets τ s1 n l) := by
    intro τ l
    induction l with
    | nil => intro n u hu; simp [gSets] at hu
    | cons k l ih =>
      intro n u hu d v
      simp only [gSets] at hu
      split at hu
      · split at hu <;> (simp only [List.mem_cons] at hu; rcases hu with rfl | hu; simp; exact ih _ u hu d v)
      · simp only [List.mem_cons] at hu; rcases hu with rfl | hu; simp; exact ih _ u hu d v
  intro u hu d v
  simp only [gUpd, List.mem_append] at hu
  rcases hu with hu | hu | hu
  · exact h1 _ u hu d v
  · exact h2 _ _ _ u hu d v
  · exact h3 _ _ _ u hu d v
theorem given_gUpd {r : List Nat} {np k : Nat} {s1 : St} : ∀ u ∈ gUpd r np k s1, ∀ j, u.given j → j = k := by
  have h1 : ∀ l, ∀ u ∈ gDels l, ∀ j, ¬ u.given j := by
    intro l
    induction l with
    | nil => intro u hu; simp [gDels] at hu
    | cons k l ih => intro u hu j; simp only [gDels, List.mem_cons] at hu; rcases hu with rfl | hu; exact fun h => h.elim; exact ih u hu j
  have h3 : ∀ τ l n, ∀ u ∈ gSets τ s1 n l, ∀ j, ¬ u.given j := by
    intro τ l
    induction l with
    | nil => intro n u hu; simp [gSets] at hu
    | cons k l ih =>
      intro n u hu j
      simp only [gSets] at hu
      split at hu
      · split at hu <;> (simp only [List.mem_cons] at hu; rcases hu with rfl | hu; exact fun h => h.elim; exact ih _ u hu j)
      · simp only [List.mem_cons] at hu; rcases hu with rfl | hu; exact fun h => h.elim; exact ih _ u hu j
  intro u hu j hj
  simp only [gUpd, List.mem_append] at hu
  rcases hu with hu | hu | hu
  · exact absurd hj (h1 _ u hu j)
  · cases hx : s1.ob np with
    | none => rw [hx] at hu; simp [gNew] at hu
    | some o => obtain ⟨o', h⟩ := rnO_some (toC r np k (some o)) o; rw [hx] at hu; simp [gNew, h] at hu; subst hu; simp only [Upd.given] at hj; omega
  · exact absurd hj (h3 _ _ _ u hu j)
def ownUp (s : St) : Nat → Bool
  | 0 => true
  | n + 1 => (match s.ob n with | some o => o.owns | none => false) && ownUp s n
theorem ownAll_spec {s : St} : ∀ {l : List Nat}, ownAll s l = true → ∀ k ∈ l, ∃ o, s.ob k = some o ∧ o.owns = true
  | [], _, k, h => by simp at h
  | x :: l, h, k, hk => by
    simp only [ownAll, Bool.and_eq_true] at h
    rcases List.mem_cons.1 hk with rfl | hk
    · cases ho : s.ob k with
      | none => rw [ho] at h; simp at h
      | some o => rw [ho] at h; exact ⟨o, rfl, h.1⟩
    · exact ownAll_spec h.2 k hk
theorem ownUp_spec {s : St} : ∀ {n : Nat}, ownUp s n = true → ∀ k, k < n → ∃ o, s.ob k = some o ∧ o.owns = true
  | 0, _, k, h => absurd h (Nat.not_lt_zero k)
  | n + 1, h, k, hk => by
    simp only [ownUp, Bool.and_eq_true] at h
    by_cases e : k = n
    · subst e
      cases ho : s.ob k with
      | none => rw [ho] at h; simp at h
      | some o => rw [ho] at h; exact ⟨o, rfl, h.1⟩
    · exact ownUp_spec h.2 k (by omega)
def capArgs (σ : Ren) : List (Nat × Nat) → List TV
  | [] => []
  | p :: l => .c (rnC σ (.ptr p.1 p.2)) :: capArgs σ l
section
variable {C : Ctx} {s : St} {F : List Key}
theorem agree_gArgs (σ : Ren) {s1 : St} (h : agreeOn F s s1) : ∀ {ys : List Operand}, (∀ x ∈ opsK ys, x ∈ F) → gArgs σ s1 ys = gArgs σ s ys
  | [], _ => rfl
  | y :: r, hp => by
    simp only [gArgs]
    rw [agree_ev h (y := y) fun x hx => hp x (by simp [opsK, hx]), agree_gArgs σ h (ys := r) fun x hx => hp x (by simp [opsK, hx])]
theorem mem_hKeys {k : Nat} : ∀ {l : List Nat}, k ∈ l → Key.h k ∈ hKeys l
  | x :: l, h => by
    rcases List.mem_cons.1 h with rfl | h
    · simp [hKeys]
    · simp [hKeys, mem_hKeys h]
theorem agree_fitH (σ : Ren) {s1 : St} (h : agreeOn F s s1) : ∀ {l : Ren}, (∀ p ∈ l, Key.h p.1 ∈ F) → fitH σ s1 l = fitH σ s l
  | [], _ => rfl
  | p :: l, hp => by
    simp only [fitH]
    rw [agree_ob h (hp p (by simp)), agree_fitH σ h (l := l) fun q hq => hp q (by simp [hq])]
theorem agree_ownAll {s1 : St} (h : agreeOn F s s1) : ∀ {l : List Nat}, (∀ k ∈ l, Key.h k ∈ F) → ownAll s1 l = ownAll s l
  | [], _ => rfl
  | k :: l, hp => by
    simp only [ownAll]
    rw [agree_ob h (hp k (by simp)), agree_ownAll h (l := l) fun q hq => hp q (by simp [hq])]
theorem frC_fst : ∀ (l : List Nat) (n : Nat), ∀ p ∈ frC n l, p.1 ∈ l
  | [], n, p, h => by simp [frC] at h
  | k :: l, n, p, h => by
    simp only [frC, List.mem_cons] at h
    rcases h with rfl | h
    · simp
    · simp [frC_fst l _ p h]
theorem mem_frC : ∀ (l : List Nat) (n k j : Nat), (k, j) ∈ frC n l → ∃ i, l[i]? = some k ∧ j = n + i
  | [], n, k, j, h => by simp [frC] at h
  | x :: l, n, k, j, h => by
    simp only [frC, List.mem_cons, Prod.mk.injEq] at h
    rcases h with ⟨rfl, rfl⟩ | h
    · exact ⟨0, by simp, by omega⟩
    · obtain ⟨i, h1, h2⟩ := mem_frC l (n + 1) k j h
      exact ⟨i + 1, by simpa using h1, by omega⟩
theorem lk_frC_none : ∀ (l : List Nat) (n k : Nat), k ∉ l → lk (frC n l) k = none
  | [], n, k, _ => rfl
  | x :: l, n, k, h => by
    simp only [List.mem_cons, not_or] at h
    simp only [frC, lk]
    rw [beq_ne (fun e => h.1 e.symm)]
    exact lk_frC_none l (n + 1) k h.2
theorem run_call2 {P : Program} {o : Oper} {ρ : Operand → Value} {y : Operand} {ys : Array Operand} {ts : Array TypeId} {f : Nat} {caps : Array Value} {w : World} (ho : o.op = .call { callee := .value y, args := ys, argTypes := ts }) (hy : ρ y = .func (.func f) #[] caps) (hc : CallOk P f) :
    (execOp ρ o).run P w = .ok (.enter f (ys.map ρ ++ caps)) w := run_call ho hy hc
theorem fnOf_caps {a : Act} {w : World} {L : Where} (hs : Sim C s a w L) {y : Operand} {f : Nat} {caps : List (Nat × Nat)} (hy : fnOf (s.ev y) = some (f, caps)) : ∃ vs : List Value, a.eval y = .func (.func f) #[] vs.toArray ∧ Al (fun u (p : Nat × Nat) => s.used p.1 ∧ ∃ b, L.blk p.1 = some b ∧ u = .pointer (some ⟨b, p.2, none⟩)) vs caps := by
  have hv := hs.ev y
  unfold fnOf at hy
  split at hy <;> try (cases hy; done)
  · rename_i f' caps hf
    cases hy
    rw [hf] at hv
    exact hv
  · rename_i f' first cap hf
    split at hy <;> try (cases hy; done)
    rename_i h1 h2
    cases hy
    rw [hf] at hv
    have := RepA.flat_eq hv
    rw [this]
    have h3 : first = #[] := by cases first; simp at h1; subst h1; rfl
    have h4 : cap = #[] := by cases cap; simp at h2; subst h2; rfl
    exact ⟨[], by rw [h3, h4], Al.nil⟩
theorem al_gArgs {P : Program} {ok ok' : Nat → Prop} {w : World} {U U' : Nat → Prop} {L L' : Where} {σ : Ren} (hr : RenFits σ U' L L') (hok : ∀ b, ok b → b < w.heap.size → ok' b) {ev : Operand → Value} (h : ∀ y, RepT P ok w U L (ev y) (s.ev y)) : ∀ ys : List Operand, Al (RepT P ok' w U' L') (ys.map ev) (gArgs σ s ys)
  | [] => Al.nil
  | y :: r => Al.cons ((h y).ren hr hok) (al_gArgs hr hok h r)
theorem al_caps {P : Program} {ok ok' : Nat → Prop} {w : World} {U U' : Nat → Prop} {L L' : Where} {σ : Ren} (hr : RenFits σ U' L L') (hok : ∀ b, ok b → b < w.heap.size → ok' b) : ∀ {vs : List Value} {caps : List (Nat × Nat)}, Al (fun u (p : Nat × Nat) => U p.1 ∧ ∃ b, L.blk p.1 = some b ∧ u = .pointer (some ⟨b, p.2, none⟩)) vs caps → Al (RepT P ok' w U' L') vs (capArgs σ caps)
  | vs, [], h => by obtain rfl := h.nil_right; exact Al.nil
  | vs, p :: l, h => by
    obtain ⟨v, vr, rfl, k1, k2⟩ := h.cons_right
    exact Al.cons (RepC.ren (P := P) (ok := ok) (c := .ptr p.1 p.2) k1 hr hok) (al_caps hr hok k2)
/-- THE CALL: the objects r go in (those below np keep their places), at most one comes back in a new place, under the number k. -/
theorem Sim.gcall {a : Act} {w : World} {L : Where} (hs : Sim C s a w L) {f : Nat} {r : List Nat} {np k nx1 : Nat} {ys : List Operand} {caps : List (Nat × Nat)} {cvs : List Value} {rv : TV} {h1 : List (Nat × Obj)}
    (hc : GCall C.P f np (St.g (gArgs (frC 0 r) s ys ++ capArgs (frC 0 r) caps) (fitH (frC 0 r) s (frC 0 r)) r.length) (St.r rv h1 nx1)) (hcv : Al (fun u (p : Nat × Nat) => s.used p.1 ∧ ∃ b, L.blk p.1 = some b ∧ u = .pointer (some ⟨b, p.2, none⟩)) cvs caps)
    (hn : r.Nodup) (ho1 : ownAll s r = true) (hnp : np ≤ r.length) (ho2 : ownUp (St.r rv h1 nx1) np = true) (hnx : nx1 ≤ np + 1) (hk : ¬ s.used k) :
    Calls C.P f (ys.map a.eval ++ cvs).toArray w fun e w' => ∃ v L', e = .returned v ∧ Sim C (s.ups (gUpd r np k (St.r rv h1 nx1))) a w' L' ∧ RepT C.P (okOf C (s.ups (gUpd r np k (St.r rv h1 nx1))) L') w' (s.ups (gUpd r np k (St.r rv h1 nx1))).used L' v (rnT (toC r np k ((St.r rv h1 nx1).ob np)) rv) := by
  have hrk : ∀ i j, r[i]? = some j → ∃ o, s.ob j = some o ∧ o.owns = true := fun i j h => ownAll_spec ho1 j (List.mem_of_getElem? h)
  have hkr : k ∉ r := fun h => by obtain ⟨i, hi⟩ := List.getElem?_of_mem h; obtain ⟨o, ho, _⟩ := hrk i k hi; exact hk (hs.ob k o ho).1
  have hkob : s.ob k = none := by cases ho : s.ob k with
    | none => rfl
    | some o => exact absurd (hs.ob k o ho).1 hk
  let C1 : Ctx := { P := C.P, w0 := w, ok0 := okOf C s L, may := fun b => ∃ (i j : Nat), r[i]? = some j ∧ L.has j b, np := np, pblk := fun i => match r[i]? with | some j => (L.blk j, L.hv j) | none => (none, undef) }
  let L1 : Where := ⟨fun i => match r[i]? with | some j => L.blk j | none => none, fun i => match r[i]? with | some j => L.hv j | none => undef, fun i => match r[i]? with | some j => L.sub j | none => []⟩
  let q := St.r rv h1 nx1
  let s0 := St.g (gArgs (frC 0 r) s ys ++ capArgs (frC 0 r) caps) (fitH (frC 0 r) s (frC 0 r)) r.length
  have hfr : RenFits (frC 0 r) s0.used L L1 := by
    intro j i hj
    obtain ⟨i', h2, rfl⟩ := lk_frC_some _ _ _ _ hj
    rw [Nat.zero_add]
    refine ⟨.inl (List.getElem?_eq_some_iff.1 h2).1, ?_, ?_, ?_⟩ <;> simp [L1, h2]
  have hob0 : ∀ i o', s0.ob i = some o' → ∃ j o, r[i]? = some j ∧ s.ob j = some o ∧ rnO (frC 0 r) o = some o' ∧ lk (frC 0 r) j = some i := by
    intro i o' h
    obtain ⟨j, o, h2, h3, h4⟩ := lk_fitH (frC 0 r) s h
    obtain ⟨i', h5, h6⟩ := mem_frC _ _ _ _ h2
    rw [Nat.zero_add] at h6; subst h6
    exact ⟨j, o, h5, h3, h4, by rw [lk_frC r 0 j hn i h5, Nat.zero_add]⟩
  have hhas1 : ∀ i j b, r[i]? = some j → (L1.has i b ↔ L.has j b) := by
    intro i j b h
    simp [Where.has, L1, h]
  have hok1 : ∀ b, okOf C s L b → b < w.heap.size → okOf C1 s0 L1 b := fun b hb _ => ⟨fun _ => .inl hb, fun i o' hi ho => by
    obtain ⟨j, o, h2, h3, h4, _⟩ := hob0 i o' hi
    rw [hhas1 i j b h2]
    exact hb.2 j o h3 (by rw [← rnO_owns h4]; exact ho)⟩
  have hargs : Al (RepT C.P (okOf C1 s0 L1) w s0.used L1) (ys.map a.eval ++ cvs) (gArgs (frC 0 r) s ys ++ capArgs (frC 0 r) caps) := (al_gArgs hfr hok1 hs.ev ys).append (al_caps hfr hok1 hcv)
  have hmay : ∀ b, C1.may b → (b < w.heap.size ∧ (C.w0.heap.size ≤ b ∨ C.may b)) ∧ ¬ okOf C s L b := by
    rintro b ⟨i, j, h2, h3⟩
    obtain ⟨o, ho, hoo⟩ := hrk i j h2
    exact ⟨hs.own j o b ho hoo h3, fun hb => hb.2 j o ho hoo h3⟩
  have hsim : Sim C1 s0 { tmps := (ys.map a.eval ++ cvs).toArray, defers := [] } w L1 := by
    refine ⟨rfl, rfl, ⟨rfl, Nat.le_refl _⟩, Nat.le_refl _, fun _ _ _ => rfl, ?_, fun i => ?_, fun i o' hi => ?_, fun i i' o o' b hi hi' ho ho' hb hb' => ?_, fun i o' b hi ho hb => ?_, rfl, fun i hi => ?_⟩
    · show (ys.map a.eval ++ cvs).toArray.size = (gArgs (frC 0 r) s ys ++ capArgs (frC 0 r) caps).length
      rw [List.size_toArray]; exact hargs.1
    · show RepT _ _ _ _ _ _ ((lk (idx 0 (gArgs (frC 0 r) s ys ++ capArgs (frC 0 r) caps)) i).getD (.c .dead))
      rw [lk_idx, if_pos (Nat.zero_le _), Nat.sub_zero]
      cases hi : (gArgs (frC 0 r) s ys ++ capArgs (frC 0 r) caps)[i]? with
      | none => trivial
      | some x =>
        obtain ⟨v, hv, hr⟩ := hargs.get_right hi
        have : (ys.map a.eval ++ cvs).toArray.getD i undef = v := by
          rw [Array.getD_eq_getD_getElem?, List.getElem?_toArray, hv]; rfl
        rw [this]; exact hr
    · obtain ⟨j, o, h2, h3, h4, h5⟩ := hob0 i o' hi
      exact ⟨.inl (List.getElem?_eq_some_iff.1 h2).1, (hs.ob j o h3).2.ren h5 h4 hfr hok1⟩
    · obtain ⟨j, o1, h2, h3, h4, _⟩ := hob0 i o hi
      obtain ⟨j', o2, h2', h3', h4', _⟩ := hob0 i' o' hi'
      rw [hhas1 i j b h2] at hb
      rw [hhas1 i' j' b h2'] at hb'
      have := hs.inj j j' o1 o2 b h3 h3' (by rw [← rnO_owns h4]; exact ho) (by rw [← rnO_owns h4']; exact ho') hb hb'
      subst this
      have e1 := lk_frC r 0 j hn i h2
      have e2 := lk_frC r 0 j hn i' h2'
      rw [e1] at e2
      have := Option.some.inj e2
      omega
    · obtain ⟨j, o1, h2, h3, h4, _⟩ := hob0 i o' hi
      rw [hhas1 i j b h2] at hb
      exact ⟨(hs.own j o1 b h3 (by rw [← rnO_owns h4]; exact ho) hb).1, .inr ⟨i, j, h2, hb⟩⟩
    · have hi : i < r.length := Nat.lt_of_lt_of_le hi hnp
      exact ⟨.inl hi, by simp [L1, C1, List.getElem?_eq_getElem hi]⟩
  refine (hc.2 C1 rfl rfl _ w L1 hsim).mono fun e w' ⟨v, L2, he, hs1⟩ => ?_
  let τ := toC r np k (q.ob np)
  let U0 := gUpd r np k q
  let L' : Where := ⟨fun j => if j = k then L2.blk np else L.blk j, fun j => if j = k then L2.hv np else L.hv j, fun j => if j = k then L2.sub np else match lk (frC 0 r) j with | some i => L2.sub i | none => L.sub j⟩
  have hq : ∀ i o, q.ob i = some o → i ≤ np := fun i o h => by
    have := (hs1.ob i o h).1
    rcases this with h2 | h2
    · have : i < nx1 := h2
      omega
    · simp [q, St.r] at h2
  have hpin : ∀ i j, i < np → r[i]? = some j → L2.blk i = L.blk j ∧ L2.hv i = L.hv j := fun i j hi hj => by
    have := (hs1.pin i hi).2
    simpa [C1, hj] using this
  have hob : ∀ j, (s.ups U0).ob j = if j = k then (q.ob np).bind (rnO τ) else match lk (frC 0 r) j with | some i => if i < np then (q.ob i).bind (rnO τ) else none | none => s.ob j := by
    intro j
    have hst : ∀ n l, lastO j (gSets τ q n l) = lastO j (gSets τ q n l) := fun _ _ => rfl
    have hnt : (r.take np).Nodup := hn.sublist (List.take_sublist _ _)
    rw [ups_ob]
    show ((lastO j (gDels (r.drop np) ++ (gNew τ k (q.ob np) ++ gSets τ q 0 (r.take np)))).getD (s.ob j)) = _
    rw [lastO_append, lastO_append, lastO_gDels, lastO_gNew]
    by_cases hjk : j = k
    · subst hjk
      rw [(lastO_gSets τ q j _ 0).1 (fun h => hkr (List.mem_of_mem_take h)), if_neg (fun h => hkr (List.mem_of_mem_drop h)), if_pos rfl, if_pos rfl]
      cases hx : (q.ob np).bind (rnO τ) with
      | none => simp [hkob]
      | some o => simp
    · rw [if_neg hjk, if_neg hjk]
      by_cases hjr : j ∈ r
      · obtain ⟨i, hi⟩ := List.getElem?_of_mem hjr
        rw [lk_frC r 0 j hn i hi]
        simp only [Nat.zero_add]
        by_cases hin : i < np
        · rw [(lastO_gSets τ q j _ 0).2 hnt i (by rw [List.getElem?_take, if_pos hin]; exact hi), if_pos hin]
          simp
        · rw [(lastO_gSets τ q j _ 0).1 (fun h => ?_), if_neg hin, if_pos (List.mem_of_getElem? (show (r.drop np)[i - np]? = some j by rw [List.getElem?_drop, show np + (i - np) = i by omega]; exact hi))]
          · simp
          · obtain ⟨i2, hi2⟩ := List.getElem?_of_mem h
            rw [List.getElem?_take] at hi2
            split at hi2
            · have e1 := lk_frC r 0 j hn i hi
              have e2 := lk_frC r 0 j hn i2 hi2
              rw [e1] at e2
              have := Option.some.inj e2
              omega
            · cases hi2
      · rw [(lastO_gSets τ q j _ 0).1 (fun h => hjr (List.mem_of_mem_take h)), if_neg (fun h => hjr (List.mem_of_mem_drop h)), lk_frC_none r 0 j hjr]
        simp
  have hU : ∀ j, s.used j → (s.ups U0).used j := fun j hj => (ups_used _ _ _).2 (.inr hj)
  have hUk : ∀ o, q.ob np = some o → (s.ups U0).used k := fun o ho => (ups_used _ _ _).2 (.inl (by
    obtain ⟨o', ho'⟩ := rnO_some τ o
    refine ⟨.new k o', ?_, rfl⟩
    show _ ∈ gDels (r.drop np) ++ (gNew τ k (q.ob np) ++ gSets τ q 0 (r.take np))
    rw [ho]
    simp [gNew, ho']))
  have hτ : ∀ i j, lk τ i = some j → (i < np ∧ r[i]? = some j) ∨ (i = np ∧ j = k ∧ ∃ o, q.ob np = some o) := by
    intro i j h
    have h1 : ∀ j, lk (idx 0 (r.take np)) i = some j → i < np ∧ r[i]? = some j := by
      intro j h
      rw [lk_idx, if_pos (Nat.zero_le _), Nat.sub_zero, List.getElem?_take] at h
      split at h
      · rename_i hi; exact ⟨hi, h⟩
      · cases h
    cases hx : q.ob np with
    | none => simp only [τ, hx, toC] at h; exact .inl (h1 j h)
    | some o =>
      simp only [τ, hx, toC, lk_append] at h
      cases hy : lk (idx 0 (r.take np)) i with
      | some j' => rw [hy] at h; simp at h; subst h; exact .inl (h1 _ hy)
      | none =>
        rw [hy] at h
        simp only [Option.none_or, lk] at h
        cases hb : Nat.beq np i with
        | true => rw [hb] at h; simp at h; exact .inr ⟨(beq_t hb).symm, h.symm, o, rfl⟩
        | false => rw [hb] at h; simp at h
  have hτ2 : ∀ i j, i < np → r[i]? = some j → lk τ i = some j := by
    intro i j hi hj
    have h1 : lk (idx 0 (r.take np)) i = some j := by rw [lk_idx, if_pos (Nat.zero_le _), Nat.sub_zero, List.getElem?_take, if_pos hi]; exact hj
    cases hx : q.ob np with
    | none => simp only [τ, hx, toC]; exact h1
    | some o => simp only [τ, hx, toC, lk_append, h1]; rfl
  have hτk : ∀ o, q.ob np = some o → lk τ np = some k := by
    intro o hx
    have h1 : lk (idx 0 (r.take np)) np = none := by
      rw [lk_idx, if_pos (Nat.zero_le _), Nat.sub_zero, List.getElem?_take, if_neg (Nat.lt_irrefl _)]
    simp only [τ, hx, toC, lk_append, h1]
    simp [lk]
  have hrt : RenFits τ (s.ups U0).used L2 L' := by
    intro i j h
    rcases hτ i j h with ⟨h2, h3⟩ | ⟨rfl, rfl, o, ho⟩
    · have hjk : j ≠ k := fun e => hkr (e ▸ List.mem_of_getElem? h3)
      obtain ⟨o, ho, _⟩ := hrk i j h3
      obtain ⟨p1, p2⟩ := hpin i j h2 h3
      refine ⟨hU j (hs.ob j o ho).1, ?_, ?_, ?_⟩
      · simp [L', hjk, p1]
      · simp [L', hjk, p2]
      · simp [L', hjk, lk_frC r 0 j hn i h3]
    · exact ⟨hUk o ho, by simp [L'], by simp [L'], by simp [L']⟩
  have hhas : ∀ i j b, lk τ i = some j → (L'.has j b ↔ L2.has i b) := fun i j b h => by
    obtain ⟨_, h2, _, h4⟩ := hrt i j h
    unfold Where.has
    rw [h2, h4]
  have hhasO : ∀ j b, j ≠ k → j ∉ r → (L'.has j b ↔ L.has j b) := fun j b h h2 => by simp [Where.has, L', h, lk_frC_none r 0 j h2]
  -- an object of the new state: the callee's, or one that was not handed in
  have cls : ∀ j o, (s.ups U0).ob j = some o → (∃ i o1, lk τ i = some j ∧ q.ob i = some o1 ∧ rnO τ o1 = some o) ∨ (s.ob j = some o ∧ j ∉ r ∧ j ≠ k) := by
    intro j o h
    rw [hob] at h
    split at h
    · rename_i e; subst e
      obtain ⟨o1, h2, h3⟩ := Option.bind_eq_some_iff.1 h
      exact .inl ⟨np, o1, hτk o1 h2, h2, h3⟩
    · rename_i hjk
      split at h
      · rename_i i hi
        split at h
        · rename_i hin
          obtain ⟨i', h4, h5⟩ := lk_frC_some _ _ _ _ hi
          rw [Nat.zero_add] at h5; subst h5
          obtain ⟨o1, h2, h3⟩ := Option.bind_eq_some_iff.1 h
          exact .inl ⟨i, o1, hτ2 i j hin h4, h2, h3⟩
        · cases h
      · rename_i hi
        refine .inr ⟨h, fun hjr => ?_, hjk⟩
        obtain ⟨i, h4⟩ := List.getElem?_of_mem hjr
        rw [lk_frC r 0 j hn i h4] at hi
        cases hi
  have hnew : ∀ i o1 b, q.ob i = some o1 → o1.owns = true → L2.has i b → b < w'.heap.size ∧ (w.heap.size ≤ b ∨ C1.may b) := fun i o1 b h2 h3 h4 => hs1.own i o1 b h2 h3 h4
  have hok2 : ∀ b, okOf C s L b → b < w.heap.size → okOf C (s.ups U0) L' b := by
    intro b hb hlt
    refine ⟨hb.1, fun j o hj ho hx => ?_⟩
    rcases cls j o hj with ⟨i, o1, h2, h3, h4⟩ | ⟨h2, h3, h4⟩
    · rw [hhas i j b h2] at hx
      rcases (hnew i o1 b h3 (by rw [← rnO_owns h4]; exact ho) hx).2 with h5 | h5
      · omega
      · exact (hmay b h5).2 hb
    · rw [hhasO j b h4 h3] at hx
      exact hb.2 j o h2 ho hx
  have hok3 : ∀ b, okOf C1 q L2 b → b < w'.heap.size → okOf C (s.ups U0) L' b := by
    intro b hb hlt'
    refine ⟨fun h0 => ?_, fun j o hj ho hx => ?_⟩
    · have hlt : b < w.heap.size := Nat.lt_of_lt_of_le h0 hs.size
      rcases hb.1 hlt with h2 | h2
      · exact h2.1 h0
      · rcases (hmay b h2).1.2 with h3 | h3
        · omega
        · exact .inr h3
    · rcases cls j o hj with ⟨i, o1, h2, h3, h4⟩ | ⟨h2, h3, h4⟩
      · rw [hhas i j b h2] at hx
        exact hb.2 i o1 h3 (by rw [← rnO_owns h4]; exact ho) hx
      · rw [hhasO j b h4 h3] at hx
        have hlt := (hs.own j o b h2 ho hx).1
        rcases hb.1 hlt with h5 | ⟨i, j', h5, h6⟩
        · exact h5.2 j o h2 ho hx
        · obtain ⟨o', ho', hoo'⟩ := hrk i j' h5
          have := hs.inj j j' o o' b h2 ho' ho hoo' hx h6
          subst this
          exact h3 (List.mem_of_getElem? h5)
  have hup : Where.upto s.used L L' := fun j hj => by
    have : j ≠ k := fun e => hk (e ▸ hj)
    simp [L', this]
  have hs2 : Sim C (s.ups U0) a w' L' := by
    refine hs.next2 (ups_t (noPut_gUpd _ _ _ _)) (ups_nt _ _) hU hup C1.may hs1.os hs1.tape hs1.output hs1.size (fun b hlt hx => hs1.kept b hlt hx) (fun b hx => ⟨(hmay b hx).2, (hmay b hx).1.2⟩) hok2 ?_ ?_ ?_
    · intro j o hj
      rcases cls j o hj with ⟨i, o1, h2, h3, h4⟩ | ⟨h2, h3, h4⟩
      · exact .inr ⟨(hrt i j h2).1, (hs1.ob i o1 h3).2.ren h2 h4 hrt hok3⟩
      · refine .inl ⟨h2, by simp [L', h4, lk_frC_none r 0 j h3], fun ho b hb ⟨i, j', h5, h6⟩ => ?_⟩
        obtain ⟨o', ho', hoo'⟩ := hrk i j' h5
        have := hs.inj j j' o o' b h2 ho' ho hoo' hb h6
        subst this
        exact h3 (List.mem_of_getElem? h5)
    · intro j j' o o' b hj hj' ho ho' hx hx'
      have mix : ∀ i o1 j o b, q.ob i = some o1 → o1.owns = true → L2.has i b → s.ob j = some o → o.owns = true → j ∉ r → L.has j b → False := by
        intro i o1 j o b h2 h3 h4 h5 h6 h7 h8
        have hlt := (hs.own j o b h5 h6 h8).1
        rcases (hnew i o1 b h2 h3 h4).2 with h9 | ⟨i', j', h9, h10⟩
        · omega
        · obtain ⟨o', ho', hoo'⟩ := hrk i' j' h9
          have := hs.inj j j' o o' b h5 ho' h6 hoo' h8 h10
          subst this
          exact h7 (List.mem_of_getElem? h9)
      rcases cls j o hj with ⟨i, o1, h2, h3, h4⟩ | ⟨h2, h3, h4⟩ <;> rcases cls j' o' hj' with ⟨i', o1', h2', h3', h4'⟩ | ⟨h2', h3', h4'⟩
      · rw [hhas i j b h2] at hx
        rw [hhas i' j' b h2'] at hx'
        have := hs1.inj i i' o1 o1' b h3 h3' (by rw [← rnO_owns h4]; exact ho) (by rw [← rnO_owns h4']; exact ho') hx hx'
        subst this
        rw [h2] at h2'
        exact Option.some.inj h2'
      · rw [hhas i j b h2] at hx
        rw [hhasO j' b h4' h3'] at hx'
        exact (mix i o1 j' o' b h3 (by rw [← rnO_owns h4]; exact ho) hx h2' ho' h3' hx').elim
      · rw [hhas i' j' b h2'] at hx'
        rw [hhasO j b h4 h3] at hx
        exact (mix i' o1' j o b h3' (by rw [← rnO_owns h4']; exact ho') hx' h2 ho h3 hx).elim
      · rw [hhasO j b h4 h3] at hx
        rw [hhasO j' b h4' h3'] at hx'
        exact hs.inj j j' o o' b h2 h2' ho ho' hx hx'
    · intro j o b hj ho hx
      rcases cls j o hj with ⟨i, o1, h2, h3, h4⟩ | ⟨h2, h3, h4⟩
      · rw [hhas i j b h2] at hx
        obtain ⟨h5, h6⟩ := hnew i o1 b h3 (by rw [← rnO_owns h4]; exact ho) hx
        refine ⟨h5, ?_⟩
        rcases h6 with h6 | h6
        · exact .inl (Nat.le_trans hs.size h6)
        · exact (hmay b h6).1.2
      · rw [hhasO j b h4 h3] at hx
        obtain ⟨h5, h6⟩ := hs.own j o b h2 ho hx
        exact ⟨Nat.lt_of_lt_of_le h5 hs1.size, h6⟩
  refine ⟨v, L', he, hs2, ?_⟩
  have := hs1.tm 0
  exact this.ren hrt hok3
/-- THE CALL at its operation. -/
theorem AX.gcall {k : Nat} {o : Oper} {K : List Key → List Upd → Prop} (r : List Nat) {np : Nat} {y : Operand} {ys : Array Operand} {ts : Array TypeId} {f nx1 : Nat} {caps : List (Nat × Nat)} {args : List TV} {h0 h1 : List (Nat × Obj)} {n0 : Nat} {rv : TV} (ho : o.op = .call { callee := .value y, args := ys, argTypes := ts }) (hy : fnOf (s.ev y) = some (f, caps))
    (hc : GCall C.P f np (St.g args h0 n0) (St.r rv h1 nx1)) (ha : gArgs (frC 0 r) s ys.toList ++ capArgs (frC 0 r) caps = args) (hh : fitH (frC 0 r) s (frC 0 r) = h0) (hn0 : r.length = n0)
    (hn : nodupB r = true) (ho1 : ownAll s r = true) (hnp : Nat.ble np r.length = true) (ho2 : ownUp (St.r rv h1 nx1) np = true) (hnx : Nat.ble nx1 (np + 1) = true) (hd : dstOk o.dst s.nt = true)
    (h : K (opK y ++ opsK ys.toList ++ hKeys r) (gUpd r np k (St.r rv h1 nx1) ++ dU o.dst (rnT (toC r np k ((St.r rv h1 nx1).ob np)) rv))) : AX C k o s K := by
  refine ⟨_, _, fun s1 hag hnt hk => ?_, fun u hu j hj => ?_, h⟩
  · rw [St.ups_append, ups_dU]
    intro a w ⟨L, hs⟩ next Q hnext
    have hmem : ∀ p ∈ frC 0 r, Key.h p.1 ∈ opK y ++ opsK ys.toList ++ hKeys r := fun p hp => List.mem_append_right _ (mem_hKeys (frC_fst r 0 p hp))
    have e1 : s1.ev y = s.ev y := agree_ev hag (by intro x hx; simp [hx])
    have e2 : gArgs (frC 0 r) s1 ys.toList = gArgs (frC 0 r) s ys.toList := agree_gArgs _ hag (by intro x hx; simp [hx])
    have e3 : fitH (frC 0 r) s1 (frC 0 r) = fitH (frC 0 r) s (frC 0 r) := agree_fitH _ hag hmem
    have e4 : ownAll s1 r = true := by rw [agree_ownAll hag fun j hj => List.mem_append_right _ (mem_hKeys hj)]; exact ho1
    obtain ⟨cvs, h2, h3⟩ := fnOf_caps hs (by rw [e1]; exact hy)
    subst hn0
    have hc' : GCall C.P f np (St.g (gArgs (frC 0 r) s1 ys.toList ++ capArgs (frC 0 r) caps) (fitH (frC 0 r) s1 (frC 0 r)) r.length) (St.r rv h1 nx1) := by rw [e2, e3, ha, hh]; exact hc
    have hcall := hs.gcall (k := k) hc' h3 (nodupB_spec hn) e4 (Nat.le_of_ble_eq_true hnp) ho2 (Nat.le_of_ble_eq_true hnx) hk
    unfold Oper.wp
    rw [run_call2 ho h2 hc.1]
    show Calls C.P f _ w _
    have e5 : (ys.map a.eval ++ cvs.toArray : Array Value) = (ys.toList.map a.eval ++ cvs).toArray := by
      apply Array.toList_inj.1
      simp
    rw [e5]
    refine hcall.mono fun e w' ⟨v, L', he, hs', hrep⟩ => ?_
    subst he
    exact hnext _ _ ⟨L', hs'.put o.dst (by rw [ups_nt, hnt]; exact dstOk_spec hd) hrep⟩
  · rcases List.mem_append.1 hu with hu | hu
    · exact given_gUpd u hu j hj
    · exact (given_dU u hu j hj).elim
end
theorem GCall.introG {P : Program} {f np : Nat} {fn : Func} {c : Code} {args : List TV} {h0 : List (Nat × Obj)} {nx : Nat} {s1 : St} {nt : Nat} {rs : List ResultVar} (hf : P.funcs[f]? = some fn) (hb : fn.body = some c) (hfn : FnOk fn nt rs) (hn : args.length ≤ nt)
    (h : ∀ C : Ctx, C.P = P → C.np = np → W C c ⟨idx 0 args, h0, nx, [], nt⟩ (PostG C rs s1)) : GCall P f np (St.g args h0 nx) s1 := GCall.intro hf hb hfn hn rfl h
theorem pinOk_0 (r : Ren) : pinOk r 0 = true := rfl
theorem pinOk_s (r : Ren) (n : Nat) : pinOk r (n + 1) = ((match lk r n with | some j => Nat.beq j n | none => false) && pinOk r n) := rfl
attribute [go_sem] gArgs frC toC gDels gNew gSets gUpd ownAll ownUp capArgs hKeys opsK List.take_nil List.drop_nil
theorem r_ob (rv : TV) (h : List (Nat × Obj)) (nx i : Nat) : (St.r rv h nx).ob i = lk h i := (rfl)
attribute [go_sem] r_ob
end Go.Exe
