/-
  Xq: a nil slice is an empty slice: in a box's cell, in arguments, in results.
-/
import Derived.Test.YtegcmciglakicaaXp
namespace Go.Exe
open Go.RowKit
set_option linter.unusedVariables false
set_option linter.unusedSimpArgs false

/-- A box's cell that holds a nil slice, told as an empty row of the run's own. -/
def St.adoptB (s : St) (b t : Nat) (cs : List Cell) (j k : Nat) (e : TypeId) : St := { s with h := ins k (.row e []) (ins b (.box t (cs.set j (.ref k))) s.h), nx := k + 1 }
theorem S.adoptB {C : Ctx} {s : St} {a : Act} {w : World} (h : S C s a w) {b t j k e sz bs : Nat} {cs : List Cell} (hb : s.ob b = some (.box t cs)) (hj : cs[j]? = some (.im (.flat (.slice none 0 0)))) (hk : Nat.ble s.nx k = true) (hex : s.ex = []) (he : EInfo C.P e = some (sz, bs)) (hs : Nat.blt 0 sz = true) : S C (s.adoptB b t cs j k e) a w := by
  obtain ⟨L, h⟩ := h
  have hs := Nat.le_of_ble_eq_true hs
  have hk' := Nat.le_of_ble_eq_true hk
  have hku : ¬ s.used k := by rintro (h1 | h1); · omega
                              · rw [hex] at h1; simp at h1
  have h1 : Sim C (s.new k (.row e [])) a w (L.set k none (.slice none 0 0)) := by
    refine h.new k hku _ _ rfl rfl ⟨rfl, Nat.le_refl _⟩ (Nat.le_refl _) (fun _ _ => rfl) none (by simp) ?_
    refine ⟨[], sz, bs, he, hs, by simp, ?_, ?_, by simp, Al.nil, by simp⟩
    · simp only [Where.set]; exact World.ownsRow_nil w 0 e sz
    · simp [Where.set, Value.ownBlock]
  have hbk : b ≠ k := fun e1 => hku (e1 ▸ (h.ob b _ hb).1)
  have hu : ∀ j, (s.new k (.row e [])).used j → (s.adoptB b t cs j k e).used j := by
    intro i hi
    rcases (s.used_new k _ i).1 hi with rfl | hi
    · exact .inl (Nat.lt_succ_self _)
    · rcases hi with hi | hi
      · exact .inl (Nat.lt_succ_of_le (Nat.le_trans (Nat.le_of_lt hi) hk'))
      · rw [hex] at hi; simp at hi
  have hob : ∀ i, (s.adoptB b t cs j k e).ob i = if k = i then some (.row e []) else if b = i then some (.box t (cs.set j (.ref k))) else s.ob i := by
    intro i
    show lk (ins k _ (ins b _ s.h)) i = _
    rw [lk_ins, lk_ins]; rfl
  have hob1 : ∀ i, (s.new k (.row e [])).ob i = if k = i then some (.row e []) else s.ob i := fun i => St.ob_new _ _ _ _
  have howns : ∀ i o, (s.adoptB b t cs j k e).ob i = some o → ∃ o', (s.new k (.row e [])).ob i = some o' ∧ o'.owns = o.owns := by
    intro i o hi
    rw [hob] at hi
    rw [hob1]
    split at hi
    · rename_i e1; rw [if_pos e1]; exact ⟨_, rfl, by cases hi; rfl⟩
    · rename_i e1; rw [if_neg e1]
      split at hi
      · rename_i e2; subst e2; cases hi; exact ⟨_, hb, rfl⟩
      · exact ⟨o, hi, rfl⟩
  have hok : ∀ x, okOf C (s.new k (.row e [])) (L.set k none (.slice none 0 0)) x → okOf C (s.adoptB b t cs j k e) (L.set k none (.slice none 0 0)) x := fun x hx => ⟨hx.1, fun i o hi ho => by
    obtain ⟨o', h2, h3⟩ := howns i o hi
    exact hx.2 i o' h2 (by rw [h3]; exact ho)⟩
  refine ⟨L.set k none (.slice none 0 0), h1.os, h1.tape, h1.output, h1.size, h1.kept, h1.nt, fun i => (h1.tm i).move (fun x hx _ => ⟨hok x hx, rfl⟩) hu (Where.upto_refl _ _), fun i o hi => ?_, fun i i' o o' x hi hi' ho ho' hx hx' => ?_, fun i o x hi ho hx => ?_, h1.defers, fun i hi => ⟨hu i (h1.pin i hi).1, (h1.pin i hi).2⟩⟩
  · rw [hob] at hi
    split at hi
    · rename_i e1; subst e1
      cases hi
      obtain ⟨h2, h3⟩ := h1.ob k (.row e []) (by rw [hob1, if_pos rfl])
      exact ⟨hu k h2, h3.move (fun x hx _ => ⟨hok x hx, rfl⟩) hu h2 (Where.upto_refl _ _) rfl (fun _ _ _ => rfl)⟩
    · rename_i e1
      split at hi
      · rename_i e2; subst e2
        cases hi
        obtain ⟨h2, h3⟩ := h1.ob b (.box t cs) (by rw [hob1, if_neg e1]; exact hb)
        obtain ⟨bb, vs, h4, h5, h6, h7⟩ := h3.move (ok' := okOf C (s.adoptB b t cs j k e) (L.set k none (.slice none 0 0))) (fun x hx _ => ⟨hok x hx, rfl⟩) hu h2 (Where.upto_refl _ _) rfl (fun _ _ _ => rfl)
        refine ⟨hu b h2, bb, vs, h4, h5, ⟨by rw [List.length_set]; exact h6.1, fun i v c hv hc => ?_⟩, h7⟩
        rw [List.getElem?_set] at hc
        split at hc
        · rename_i e3; subst e3
          split at hc
          · cases hc
            have hr := h6.2 _ _ _ hv hj
            have hr := RepA.flat_eq (show RepA C.P _ w v (.flat (.slice none 0 0)) from hr)
            refine ⟨hu k ((s.used_new k _ k).2 (.inl rfl)), ?_, none, 0, 0, hr⟩
            rw [hr]; simp [Where.set]
          · cases hc
        · exact h6.2 _ _ _ hv hc
      · rename_i e2
        obtain ⟨h2, h3⟩ := h1.ob i o (by rw [hob1, if_neg e1]; exact hi)
        exact ⟨hu i h2, h3.move (fun x hx _ => ⟨hok x hx, rfl⟩) hu h2 (Where.upto_refl _ _) rfl (fun _ _ _ => rfl)⟩
  · obtain ⟨o1, h2, h3⟩ := howns i o hi
    obtain ⟨o2, h4, h5⟩ := howns i' o' hi'
    exact h1.inj i i' o1 o2 x h2 h4 (by rw [h3]; exact ho) (by rw [h5]; exact ho') hx hx'
  · obtain ⟨o1, h2, h3⟩ := howns i o hi
    exact h1.own i o1 x h2 (by rw [h3]; exact ho) hx
theorem Fits.adoptB {C : Ctx} {s s' : St} (b t : Nat) (cs : List Cell) (j k e : Nat) {sz bs : Nat} (hb : s.ob b = some (.box t cs)) (hj : cs[j]? = some (.im (.flat (.slice none 0 0)))) (hk : Nat.ble s.nx k = true) (hex : s.ex = []) (he : EInfo C.P e = some (sz, bs)) (hs : Nat.blt 0 sz = true) (h : Fits C (s.adoptB b t cs j k e) s') : Fits C s s' := fun a w hS => h a w (hS.adoptB hb hj hk hex he hs)

/-! ### a nil slice for an empty one -/
inductive CLe : Cell → Cell → Prop where
  | rfl {c : Cell} : CLe c c
  | nil {e : TypeId} : CLe (.im (.flat (.slice none 0 0))) (.im (.sl e []))
inductive TLe : TV → TV → Prop where
  | rfl {x : TV} : TLe x x
  | c {x y : Cell} : CLe x y → TLe (.c x) (.c y)
  | g {xs ys : List Cell} : Al CLe xs ys → TLe (.g xs) (.g ys)
  | t {xs ys : List (Bool × List Cell)} : Al (fun x y => x.1 = y.1 ∧ Al CLe x.2 y.2) xs ys → TLe (.t xs) (.t ys)
section
variable {P : Program} {ok : Nat → Prop} {w : World} {U : Nat → Prop} {L : Where}
theorem CLe.rep {v : Value} {x y : Cell} (h : CLe x y) (hv : RepC P ok w U L v x) : RepC P ok w U L v y := by
  cases h with
  | rfl => exact hv
  | nil => rw [RepA.flat_eq (show RepA P ok w v (.flat (.slice none 0 0)) from hv)]; exact RepA.nil
theorem CLe.reps {vs : List Value} {xs ys : List Cell} (h : Al CLe xs ys) (hv : Al (RepC P ok w U L) vs xs) : Al (RepC P ok w U L) vs ys := by
  refine ⟨hv.1.trans h.1, fun i v y h1 h2 => ?_⟩
  obtain ⟨x, h3, h4⟩ := h.get_right h2
  exact h4.rep (hv.2 i v x h1 h3)
theorem TLe.rep {v : Value} {x y : TV} (h : TLe x y) (hv : RepT P ok w U L v x) : RepT P ok w U L v y := by
  cases h with
  | rfl => exact hv
  | c h => exact h.rep hv
  | g h => obtain ⟨vs, h1, h2⟩ := hv; exact ⟨vs, h1, CLe.reps h h2⟩
  | t h =>
    obtain ⟨vs, h1, h2⟩ := hv
    refine ⟨vs, h1, h2.1.trans h.1, fun i v y h3 h4 => ?_⟩
    obtain ⟨x, h5, h6, h7⟩ := h.get_right h4
    have h8 := h2.2 i v x h3 h5
    unfold RepT1 at h8 ⊢
    rw [h6] at h8
    split at h8
    · rename_i hc; rw [if_pos hc]; obtain ⟨us, h9, h10⟩ := h8; exact ⟨us, h9, CLe.reps h7 h10⟩
    · rename_i hc; rw [if_neg hc]
      obtain ⟨c, h9, h10⟩ := h8
      rw [h9] at h7
      obtain ⟨c', hc', h11⟩ : ∃ c', y.2 = [c'] ∧ CLe c c' := by
        have hl := h7.1
        match hy : y.2, hl with
        | [c'], _ => exact ⟨c', Eq.refl _, h7.2 0 c c' (by simp) (by simp [hy])⟩
      exact ⟨c', hc', h11.rep h10⟩
theorem PCall.conv {f : Nat} {args args' : List TV} {r r' : TV} (h : PCall P f args' r') (ha : Al TLe args args') (hr : TLe r' r) : PCall P f args r := by
  refine ⟨h.1, fun ok w vs hvs => ?_⟩
  refine (h.2 ok w vs ⟨hvs.1.trans ha.1, fun i v y h1 h2 => ?_⟩).mono fun e w' ⟨v, h1, h2, h3⟩ => ⟨v, h1, h2, hr.rep h3⟩
  obtain ⟨x, h3, h4⟩ := ha.get_right h2
  exact h4.rep (hvs.2 i v x h1 h3)
theorem Al.of_all {α β : Type} {R : α → β → Prop} : ∀ {l : List α} {m : List β}, l.length = m.length → (∀ p ∈ l.zip m, R p.1 p.2) → Al R l m
  | [], [], _, _ => Al.nil
  | a :: l, b :: m, h, k => Al.cons (k (a, b) (by simp)) (Al.of_all (by simpa using h) fun p hp => k p (by simp [hp]))
theorem Al.refl {α : Type} {R : α → α → Prop} (h : ∀ x, R x x) : ∀ l : List α, Al R l l := fun l => ⟨rfl, fun i a b h1 h2 => by rw [h1] at h2; cases h2; exact h a⟩
end
theorem W.lenB {C : Ctx} {s : St} {Q : Exit → St → Prop} {c : Code} (i : Nat) {e : TypeId} {xs : List (List AV)} {sz bs : Nat} (hi : s.tv i = .c (.im (.sl e xs))) (he : EInfo C.P e = some (sz, bs)) (h : xs.length ≤ maxLen → xs.length * bs ≤ 140737488355328 → W C c s Q) : W C c s Q := fun a w hs => by
  have hh : xs.length ≤ maxLen ∧ xs.length * bs ≤ 140737488355328 := by
    obtain ⟨L, hs⟩ := hs
    have h1 := hs.tm i
    rw [hi] at h1
    have h1 : RepA C.P _ w (a.tmps.getD i undef) (.sl e xs) := h1
    obtain ⟨ad, n, c, _, hl, hc, hm, h2⟩ := h1.openSl
    refine ⟨by omega, ?_⟩
    rcases h2 with ⟨_, h3, _⟩ | ⟨_, sz', bs', _, _, h4, _, h5, _⟩
    · rw [hl, h3]; simp
    · rw [he] at h4; cases h4; rw [hl]; exact h5
  exact h hh.1 hh.2 a w hs
theorem W.lenX {C : Ctx} {s : St} {Q : Exit → St → Prop} {c : Code} (b j : Nat) {t : TypeId} {cs : List Cell} {e : TypeId} {xs : List (List AV)} {sz bs : Nat} (hb : s.ob b = some (.box t cs)) (hj : cs[j]? = some (.im (.sl e xs))) (he : EInfo C.P e = some (sz, bs)) (h : xs.length ≤ maxLen → xs.length * bs ≤ 140737488355328 → W C c s Q) : W C c s Q := fun a w hs => by
  have hh : xs.length ≤ maxLen ∧ xs.length * bs ≤ 140737488355328 := by
    obtain ⟨L, hs⟩ := hs
    obtain ⟨_, b0, vs, _, _, hal, _⟩ := hs.ob b _ hb
    obtain ⟨v, _, h1⟩ := hal.get_right hj
    have h1 : RepA C.P _ w v (.sl e xs) := h1
    obtain ⟨ad, n, c, _, hl, hc, hm, h2⟩ := h1.openSl
    refine ⟨by omega, ?_⟩
    rcases h2 with ⟨_, h3, _⟩ | ⟨_, sz', bs', _, _, h4, _, h5, _⟩
    · rw [hl, h3]; simp
    · rw [he] at h4; cases h4; rw [hl]; exact h5
  exact h hh.1 hh.2 a w hs
theorem imR_len (xs : List (List AV)) : (imR xs).length = xs.length := by simp [imR]
theorem imR_get (xs : List (List AV)) (i : Nat) : (imR xs)[i]? = xs[i]?.map imL := by simp [imR]
theorem imR_take (xs : List (List AV)) (n : Nat) : (imR xs).take n = imR (xs.take n) := by simp [imR]
theorem imR_drop (xs : List (List AV)) (n : Nat) : (imR xs).drop n = imR (xs.drop n) := by simp [imR]
theorem imR_app (xs ys : List (List AV)) : imR (xs ++ ys) = imR xs ++ imR ys := by simp [imR]
theorem imR_one (x : List AV) : imR [x] = [imL x] := rfl
theorem rnCs_im (r : Ren) : ∀ xs : List AV, rnCs r (imL xs) = imL xs
  | [] => rfl
  | x :: l => by
    have := rnCs_im r l
    simp only [imL, List.map_cons, rnCs, rnC] at this ⊢
    rw [this]
theorem rnCss_im (r : Ren) : ∀ xs : List (List AV), rnCss r (imR xs) = imR xs
  | [] => rfl
  | x :: l => by
    have := rnCss_im r l
    simp only [imR, List.map_cons, rnCss, rnCs_im] at this ⊢
    rw [this]
theorem rnCss_app (r : Ren) : ∀ xs ys : List (List Cell), rnCss r (xs ++ ys) = rnCss r xs ++ rnCss r ys
  | [], ys => rfl
  | x :: l, ys => by simp [rnCss, rnCss_app r l ys]
theorem take_at {α : Type} {l : List α} {i : Nat} {x : α} (h : l[i]? = some x) : l.take (i + 1) = l.take i ++ [x] := by
  rw [List.take_add_one, h]; rfl
attribute [go_sem] List.getElem?_toArray Bool.true_eq_false Bool.false_eq_true if_true if_false
attribute [go_sem] imR_get imR_take imR_drop unim_im imR_len rnCss_im rnCss_app
attribute [go_sem] St.adoptB List.set_cons_zero List.set_cons_succ
end Go.Exe
