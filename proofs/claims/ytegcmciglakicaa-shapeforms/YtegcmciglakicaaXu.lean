/-
  Xu: rows and variables that lie inside objects: taken out, put back; objects frozen.
-/
import Derived.Test.YtegcmciglakicaaXt
namespace Go.Exe
open Go.RowKit
set_option linter.unusedVariables false
set_option linter.unusedSimpArgs false

def setE : List (Value × Bool × List Cell) → Nat → Cell → List (Value × Bool × List Cell)
  | [], _, _ => []
  | e :: r, 0, c => (e.1, e.2.1, [c]) :: r
  | e :: r, i + 1, c => e :: setE r i c
def setR : List (List Cell) → Nat → Nat → Cell → List (List Cell)
  | [], _, _, _ => []
  | x :: r, 0, p, c => x.set p c :: r
  | x :: r, i + 1, p, c => x :: setR r i p c
def Obj.slot : Obj → Nat → Nat → Option Cell
  | .map _ es, i, _ => (match es[i]? with | some (_, false, [c]) => some c | _ => none)
  | .nrow _ xs, i, p => (match xs[i]? with | some x => x[p]? | none => none)
  | _, _, _ => none
def Obj.setSlot : Obj → Nat → Nat → Cell → Obj
  | .map kt es, i, _, c => .map kt (setE es i c)
  | .nrow e xs, i, p, c => .nrow e (setR xs i p c)
  | o, _, _, _ => o
theorem setE_set : ∀ {es : List (Value × Bool × List Cell)} {i : Nat} {key : Value} {b : Bool} {cs : List Cell} (c : Cell), es[i]? = some (key, b, cs) → setE es i c = es.set i (key, b, [c])
  | [], _, _, _, _, _, h => by simp at h
  | e :: r, 0, _, _, _, c, h => by simp at h; subst h; rfl
  | e :: r, i + 1, _, _, _, c, h => by simp only [setE, List.set_cons_succ]; rw [setE_set c (by simpa using h)]
theorem setE_keys : ∀ (es : List (Value × Bool × List Cell)) (i : Nat) (c : Cell), (setE es i c).map (·.1) = es.map (·.1)
  | [], _, _ => rfl
  | e :: r, 0, c => rfl
  | e :: r, i + 1, c => by simp [setE, setE_keys r i c]
theorem setR_set : ∀ {xs : List (List Cell)} {i : Nat} {x : List Cell} (p : Nat) (c : Cell), xs[i]? = some x → setR xs i p c = xs.set i (x.set p c)
  | [], _, _, _, _, h => by simp at h
  | e :: r, 0, _, p, c, h => by simp at h; subst h; rfl
  | e :: r, i + 1, _, p, c, h => by simp only [setR, List.set_cons_succ]; rw [setR_set p c (by simpa using h)]
theorem setR_len : ∀ (xs : List (List Cell)) (i p : Nat) (c : Cell), (setR xs i p c).length = xs.length
  | [], _, _, _ => rfl
  | x :: r, 0, p, c => rfl
  | x :: r, i + 1, p, c => by simp [setR, setR_len r i p c]
theorem fpL_hole : ∀ {vs : List Value} {cs : List Cell} {p : Nat} {v : Value} {c : Cell}, vs[p]? = some v → cs[p]? = some c → ∃ A B, ∀ c', fpL vs (cs.set p c') = A ++ fpV v c' ++ B
  | [], _, _, _, _, h, _ => by simp at h
  | _ :: _, [], _, _, _, _, h => by simp at h
  | a :: r, b :: q, 0, v, c, h1, h2 => by
    simp at h1 h2; subst h1; subst h2
    exact ⟨[], fpL r q, fun c' => by simp [fpL]⟩
  | a :: r, b :: q, p + 1, v, c, h1, h2 => by
    obtain ⟨A, B, h⟩ := fpL_hole (vs := r) (cs := q) (p := p) (by simpa using h1) (by simpa using h2)
    exact ⟨fpV a b ++ A, B, fun c' => by have := h c'; simp only [fpL, List.set_cons_succ, List.zipWith_cons_cons, List.flatten_cons] at this ⊢; rw [this]; simp⟩
theorem fpR_hole : ∀ {uss : List (List Value)} {xs : List (List Cell)} {i : Nat} {u : List Value} {x : List Cell}, uss[i]? = some u → xs[i]? = some x → ∃ A B, ∀ x', fpR uss (xs.set i x') = A ++ fpL u x' ++ B
  | [], _, _, _, _, h, _ => by simp at h
  | _ :: _, [], _, _, _, _, h => by simp at h
  | a :: r, b :: q, 0, v, c, h1, h2 => by
    simp at h1 h2; subst h1; subst h2
    exact ⟨[], fpR r q, fun c' => by simp [fpR]⟩
  | a :: r, b :: q, p + 1, v, c, h1, h2 => by
    obtain ⟨A, B, h⟩ := fpR_hole (uss := r) (xs := q) (i := p) (by simpa using h1) (by simpa using h2)
    exact ⟨fpL a b ++ A, B, fun c' => by have := h c'; simp only [fpR, List.set_cons_succ, List.zipWith_cons_cons, List.flatten_cons] at this ⊢; rw [this]; simp⟩
theorem fpE_hole : ∀ {ms : List MapEntry} {es : List (Value × Bool × List Cell)} {i : Nat} {m : MapEntry} {e : Value × Bool × List Cell}, ms[i]? = some m → es[i]? = some e → ∃ A B, ∀ e', fpE ms (es.set i e') = A ++ fpM m.val e'.2 ++ B
  | [], _, _, _, _, h, _ => by simp at h
  | _ :: _, [], _, _, _, _, h => by simp at h
  | a :: r, b :: q, 0, v, c, h1, h2 => by
    simp at h1 h2; subst h1; subst h2
    exact ⟨[], fpE r q, fun c' => by simp [fpE]⟩
  | a :: r, b :: q, p + 1, v, c, h1, h2 => by
    obtain ⟨A, B, h⟩ := fpE_hole (ms := r) (es := q) (i := p) (by simpa using h1) (by simpa using h2)
    exact ⟨fpM a.val b.2 ++ A, B, fun c' => by have := h c'; simp only [fpE, List.set_cons_succ, List.zipWith_cons_cons, List.flatten_cons] at this ⊢; rw [this]; simp⟩
theorem set_same {α : Type} {l : List α} {i : Nat} {x : α} (h : l[i]? = some x) : l.set i x = l := (List.getElem?_eq_some_iff.1 h).2 ▸ List.set_getElem_self _

/-- An object with one of its cells taken out. -/
theorem RepO.slot {P : Program} {ok : Nat → Prop} {w : World} {U : Nat → Prop} {L : Where} {k : Nat} {o : Obj} {i p : Nat} {c : Cell} (h : RepO P ok w U L k o) (hU : U k) (hs : o.slot i p = some c) :
    ∃ v A B, RepN P ok w U L v c ∧ Subs L k (A ++ fpV v c ++ B) ∧ ∀ (c' : Cell) (ok' U' : Nat → Prop) (L' : Where), (∀ b, ok b → b < w.heap.size → ok' b) → (∀ k, U k → U' k) → Where.upto U L L' → RepN P ok' w U' L' v c' → Subs L' k (A ++ fpV v c' ++ B) → RepO P ok' w U' L' k (o.setSlot i p c') := by
  cases o with
  | map kt es =>
    obtain ⟨b, ms, clk, ⟨h1, h2, h3⟩, h4, h5, h6, h7, h8⟩ := h
    simp only [Obj.slot] at hs
    split at hs <;> try (cases hs; done)
    rename_i key c0 he
    cases hs
    obtain ⟨m, hm, hk, hv⟩ := h5.get_right he
    have hk : m.key = key := hk
    have hv : RepM P ok w U L m.val (false, [c]) := hv
    obtain ⟨c1, hc1, hv⟩ := hv
    simp at hc1; subst hc1
    obtain ⟨A, B, hAB⟩ := fpE_hole hm he
    refine ⟨m.val, A, B, hv, ?_, fun c' ok' U' L' hok hU' hL hc' hsub => ?_⟩
    · have := hAB (key, false, [c])
      rw [set_same he] at this
      rw [this] at h8
      exact h8
    · refine ⟨b, ms, clk, ⟨by rw [(hL k hU).1]; exact h1, by rw [(hL k hU).2]; exact h2, by rw [setE_keys]; exact h3⟩, h4, ?_, h6, h7, ?_⟩
      · rw [setE_set c' he]
        have hm2 := set_same hm
        have := (h5.imp_at fun i m e hm he h => (⟨h.1, h.2.move (ok' := ok') (U' := U') (L' := L') (fun b hb hlt => ⟨hok b hb hlt, rfl⟩) hU' hL (fun _ _ => rfl)⟩ : m.key = e.1 ∧ RepM P ok' w U' L' m.val e.2)).set i (a := m) (b := (key, false, [c'])) ⟨hk, c', rfl, hc'⟩
        rw [hm2] at this
        exact this
      · rw [setE_set c' he]
        have := hAB (key, false, [c'])
        rw [this]
        exact hsub
  | nrow e xs =>
    obtain ⟨uss, sz, bs, h1, h2, h3, h4, h5, h6, h7, h8, h9⟩ := h
    simp only [Obj.slot] at hs
    split at hs <;> try (cases hs; done)
    rename_i x hx
    obtain ⟨u, hu, hux⟩ := h7.get_right hx
    obtain ⟨v, hv, hvc⟩ := hux.get_right hs
    obtain ⟨A, B, hAB⟩ := fpR_hole hu hx
    obtain ⟨A', B', hAB'⟩ := fpL_hole hv hs
    refine ⟨v, A ++ A', B' ++ B, hvc, ?_, fun c' ok' U' L' hok hU' hL hc' hsub => ?_⟩
    · have e1 := hAB (x.set p c)
      rw [hAB' c, set_same hs, set_same hx] at e1
      rw [e1] at h9
      simpa using h9
    · refine ⟨uss, sz, bs, h1, h2, by rw [setR_len]; exact h3, by rw [setR_len, (hL k hU).2]; exact h4, by rw [(hL k hU).1, (hL k hU).2]; exact h5, h6, ?_, h8, ?_⟩
      · rw [setR_set p c' hx]
        have hu2 := set_same hu
        have hv2 := set_same hv
        have mv : ∀ v c, RepN P ok w U L v c → RepN P ok' w U' L' v c := fun v c h => h.move (fun b hb hlt => ⟨hok b hb hlt, rfl⟩) hU' hL (fun _ _ => rfl)
        have h10 := (hux.imp mv).set p (a := v) (b := c') hc'
        rw [hv2] at h10
        have h11 := (h7.imp fun _ _ h => h.imp mv).set i (a := u) (b := x.set p c') h10
        rw [hu2] at h11
        exact h11
      · rw [setR_set p c' hx, hAB, hAB' c']
        have : A ++ (A' ++ fpV v c' ++ B') ++ B = A ++ A' ++ fpV v c' ++ (B' ++ B) := by simp
        rw [this]
        exact hsub
  | _ => simp [Obj.slot] at hs

/-- What is taken out, as an object of its own; the cell that leads to it. -/
def openObj : Cell → Option Obj
  | .obox t cs => some (.box t (imL cs))
  | .orow e xs => some (.row e (imR xs))
  | _ => none
def refCell (j : Nat) : Cell → Cell
  | .obox _ _ => .ptr j 0
  | .orow _ _ => .ref j
  | c => c
def blkOf (v : Value) : Cell → Option Nat
  | .obox _ _ => (match v with | .pointer (some a) => some a.block | _ => none)
  | .orow _ _ => v.ownBlock
  | _ => none
theorem fpV_blk (v : Value) (c : Cell) : fpV v c = (blkOf v c).toList := by
  cases c <;> try rfl
  cases v <;> try rfl
  rename_i a; cases a <;> rfl
def St.unf (s : St) (k i p j : Nat) (o : Obj) (c : Cell) (o1 : Obj) : St := { s with h := ins j o1 (ins k (o.setSlot i p (refCell j c)) s.h), nx := j + 1 }
theorem setSlot_owns (o : Obj) (i p : Nat) (c : Cell) : (o.setSlot i p c).owns = o.owns := by cases o <;> rfl
theorem openObj_rep {P : Program} {ok : Nat → Prop} {w : World} {U : Nat → Prop} {L L' : Where} {U' ok' : Nat → Prop} {v : Value} {c : Cell} {o1 : Obj} {j : Nat} (h : RepN P ok w U L v c) (ho : openObj c = some o1) (hok : ∀ b, ok b → b < w.heap.size → ok' b) (h1 : L'.blk j = blkOf v c) (h2 : L'.hv j = v) (hu : U' j) : RepO P ok' w U' L' j o1 ∧ RepN P ok' w U' L' v (refCell j c) ∧ o1.owns = true := by
  cases c <;> simp only [openObj] at ho <;> try (cases ho; done)
  case orow e xs =>
    cases ho
    obtain ⟨uss, sz, bs, a1, a2, a3, a4, a5, a6, a7⟩ := h
    have hlen : (imR xs).length = xs.length := by simp [imR]
    refine ⟨⟨uss, sz, bs, a1, a2, by rw [hlen]; exact a3, by rw [hlen, h2]; exact a4, by rw [h1, h2]; rfl, a5, ?_, a7⟩, ?_, rfl⟩
    · exact a6.map_right imL fun _ _ h => h.map_right Cell.im fun _ _ h => h.mono hok
    · refine ⟨hu, h2.symm, ?_⟩
      obtain ⟨ad, c, hv, _⟩ := ownsRow_slice a4
      exact ⟨ad, _, c, hv⟩
  case obox t cs =>
    cases ho
    obtain ⟨b, vs, rfl, a2, a3, a4⟩ := h
    exact ⟨⟨b, vs, h1, a2, a3.map_right Cell.im fun _ _ h => h.mono hok, a4⟩, ⟨hu, b, h1, rfl⟩, rfl⟩
theorem S.unf {C : Ctx} {s : St} {a : Act} {w : World} (h : S C s a w) {k i p j : Nat} {o o1 : Obj} {c : Cell} (hex : s.ex = []) (ho : s.ob k = some o) (hs : o.slot i p = some c) (hj : Nat.ble s.nx j = true) (hc : openObj c = some o1) : S C (s.unf k i p j o c o1) a w := by
  obtain ⟨L, h⟩ := h
  have hj := Nat.le_of_ble_eq_true hj
  have hju : ¬ s.used j := by
    rintro (h1 | h1)
    · omega
    · rw [hex] at h1; simp at h1
  obtain ⟨hku, hrep⟩ := h.ob k o ho
  have hoo : o.owns = true := by cases o <;> first | rfl | (simp [Obj.slot] at hs)
  have hkj : k ≠ j := fun e => hju (e ▸ hku)
  obtain ⟨v, A, B, hv, hsub, hput⟩ := hrep.slot hku hs
  let L' : Where := ⟨fun x => if x = j then blkOf v c else L.blk x, fun x => if x = j then v else L.hv x, fun x => if x = j then [] else if x = k then (L.sub k).filter (fun y => some y ≠ blkOf v c) else L.sub x⟩
  have hup : Where.upto s.used L L' := fun x hx => by
    have : x ≠ j := fun e => hju (e ▸ hx)
    simp [L', this]
  have hbk : ∀ b, blkOf v c = some b → L.blk k ≠ some b ∧ b ∈ L.sub k := fun b hb => by
    have := hsub.2 b (by rw [fpV_blk, hb]; simp)
    exact ⟨this.2, this.1⟩
  have hasj : ∀ x, L'.has j x ↔ blkOf v c = some x := fun x => by simp [Where.has, L']
  have hask : ∀ x, L'.has k x ↔ L.has k x ∧ blkOf v c ≠ some x := fun x => by
    simp only [Where.has, L', if_neg hkj, if_true, eq_self, List.mem_filter, decide_eq_true_eq]
    constructor
    · rintro (h1 | ⟨h1, h2⟩)
      · exact ⟨.inl h1, fun e => (hbk x e).1 h1⟩
      · exact ⟨.inr h1, fun e => h2 e.symm⟩
    · rintro ⟨h1 | h1, h2⟩
      · exact .inl h1
      · exact .inr ⟨h1, fun e => h2 e.symm⟩
  have haso : ∀ x y, x ≠ j → x ≠ k → (L'.has x y ↔ L.has x y) := fun x y h1 h2 => by simp [Where.has, L', h1, h2]
  have hob : ∀ x, (s.unf k i p j o c o1).ob x = if j = x then some o1 else if k = x then some (o.setSlot i p (refCell j c)) else s.ob x := fun x => by
    show lk (ins j _ (ins k _ s.h)) x = _
    rw [lk_ins, lk_ins]; rfl
  have hU : ∀ x, s.used x → (s.unf k i p j o c o1).used x := fun x hx => by
    rcases hx with hx | hx
    · exact .inl (by show x < j + 1; omega)
    · rw [hex] at hx; simp at hx
  have hUj : (s.unf k i p j o c o1).used j := .inl (Nat.lt_succ_self _)
  -- who owns what, before and now
  have back : ∀ x o' b, (s.unf k i p j o c o1).ob x = some o' → o'.owns = true → L'.has x b → ∃ y oy, s.ob y = some oy ∧ oy.owns = true ∧ L.has y b ∧ ((x = j ∧ y = k ∧ blkOf v c = some b) ∨ (x ≠ j ∧ y = x ∧ (x = k → blkOf v c ≠ some b))) := by
    intro x o' b hx hown hb
    rw [hob] at hx
    split at hx
    · rename_i e; subst e
      rw [hasj] at hb
      exact ⟨k, o, ho, hoo, .inr (hbk b hb).2, .inl ⟨rfl, rfl, hb⟩⟩
    · rename_i e
      split at hx
      · rename_i e2; subst e2
        rw [hask] at hb
        exact ⟨k, o, ho, hoo, hb.1, .inr ⟨fun e => hkj e, rfl, fun _ => hb.2⟩⟩
      · rename_i e2
        rw [haso x b (fun e3 => e e3.symm) (fun e3 => e2 e3.symm)] at hb
        exact ⟨x, o', hx, hown, hb, .inr ⟨fun e3 => e e3.symm, rfl, fun e3 => absurd e3.symm e2⟩⟩
  have hok : ∀ b, okOf C s L b → okOf C (s.unf k i p j o c o1) L' b := fun b hb => ⟨hb.1, fun x o' hx hown hh => by
    obtain ⟨y, oy, h1, h2, h3, _⟩ := back x o' b hx hown hh
    exact hb.2 y oy h1 h2 h3⟩
  obtain ⟨hr1, hr2, how⟩ := openObj_rep (L' := L') (U' := (s.unf k i p j o c o1).used) (j := j) hv hc (fun b hb _ => hok b hb) (by simp [L']) (by simp [L']) hUj
  refine ⟨L', h.os, h.tape, h.output, h.size, h.kept, h.nt, fun x => (h.tm x).move (fun b hb _ => ⟨hok b hb, rfl⟩) hU hup, fun x o' hx => ?_, fun x x' o' o2 b hx hx' hown hown' hb hb' => ?_, fun x o' b hx hown hb => ?_, h.defers, fun x hx => ⟨hU x (h.pin x hx).1, by rw [(hup x (h.pin x hx).1).1, (hup x (h.pin x hx).1).2]; exact (h.pin x hx).2⟩⟩
  · rw [hob] at hx
    split at hx
    · rename_i e; subst e; cases hx; exact ⟨hUj, hr1⟩
    · rename_i e
      split at hx
      · rename_i e2; subst e2; cases hx
        refine ⟨hU k hku, hput _ _ _ _ (fun b hb _ => hok b hb) hU hup hr2 ?_⟩
        have hfp : fpV v (refCell j c) = [] := by cases c <;> first | rfl | (simp [openObj] at hc)
        rw [hfp]
        have hnd := hsub.1
        rw [fpV_blk] at hnd
        refine ⟨?_, fun x hx => ?_⟩
        · refine hnd.sublist ?_
          simp
        · have hxs := hsub.2 x (by simp only [List.append_nil, List.mem_append] at hx ⊢; rcases hx with hx | hx; exact .inl (.inl hx); exact .inr hx)
          have hne : blkOf v c ≠ some x := fun e => by
            rw [e] at hnd
            simp only [Option.toList_some, List.append_assoc] at hnd
            have h1 := List.nodup_append.1 hnd
            simp only [List.append_nil, List.mem_append] at hx
            rcases hx with hx | hx
            · exact h1.2.2 x hx x (by simp) rfl
            · have := List.nodup_cons.1 (show (x :: B).Nodup from h1.2.1)
              exact this.1 hx
          refine ⟨?_, by simp only [L', if_neg hkj]; exact hxs.2⟩
          simp only [L', if_neg hkj, if_true, eq_self, List.mem_filter, decide_eq_true_eq]
          exact ⟨hxs.1, fun e => hne e.symm⟩
      · rename_i e2
        obtain ⟨h1, h2⟩ := h.ob x o' hx
        exact ⟨hU x h1, h2.move (fun b hb _ => ⟨hok b hb, rfl⟩) hU h1 hup (by simp [L', show ¬ x = j from fun e3 => e e3.symm, show ¬ x = k from fun e3 => e2 e3.symm]) (fun _ _ _ => rfl)⟩
  · obtain ⟨y, oy, h1, h2, h3, h4⟩ := back x o' b hx hown hb
    obtain ⟨y', oy', h1', h2', h3', h4'⟩ := back x' o2 b hx' hown' hb'
    have := h.inj y y' oy oy' b h1 h1' h2 h2' h3 h3'
    subst this
    rcases h4 with ⟨e1, e2, e3⟩ | ⟨e1, e2, e3⟩ <;> rcases h4' with ⟨f1, f2, f3⟩ | ⟨f1, f2, f3⟩
    · rw [e1, f1]
    · exact absurd e3 (f3 (f2.symm.trans e2))
    · exact absurd f3 (e3 (e2.symm.trans f2))
    · exact e2.symm.trans f2
  · obtain ⟨y, oy, h1, h2, h3, _⟩ := back x o' b hx hown hb
    exact h.own y oy b h1 h2 h3
def St.fold (s : St) (k i p j : Nat) (o : Obj) (c : Cell) : St := { s with h := ins k (o.setSlot i p c) (del j s.h) }
theorem S.fold {C : Ctx} {s : St} {a : Act} {w : World} (h : S C s a w) {k i p j : Nat} {o o1 : Obj} {c : Cell} (ho : s.ob k = some o) (hc : openObj c = some o1) (hj : s.ob j = some o1) (hs : o.slot i p = some (refCell j c)) (hkj : k ≠ j) : S C (s.fold k i p j o c) a w := by
  obtain ⟨L, h⟩ := h
  obtain ⟨hku, hrep⟩ := h.ob k o ho
  obtain ⟨hju, hrj⟩ := h.ob j o1 hj
  have hoo : o.owns = true := by cases o <;> first | rfl | (simp [Obj.slot] at hs)
  have hoj : o1.owns = true := by cases c <;> simp only [openObj] at hc <;> first | (cases hc; rfl) | (cases hc; done)
  obtain ⟨v, A, B, hv, hsub, hput⟩ := hrep.slot hku hs
  have hrc : fpV v (refCell j c) = [] := by cases c <;> first | rfl | (simp [openObj] at hc)
  have hbv : blkOf v c = L.blk j := by
    cases c <;> simp only [openObj] at hc <;> try (cases hc; done)
    · cases hc
      obtain ⟨_, hv2, _⟩ := hv
      obtain ⟨_, _, _, _, _, _, _, h5, _⟩ := hrj
      show v.ownBlock = _
      rw [hv2]; exact h5
    · cases hc
      obtain ⟨_, b, hb, rfl⟩ := hv
      exact hb.symm
  let L' : Where := ⟨L.blk, L.hv, fun x => if x = k then (L.blk j).toList ++ L.sub k else L.sub x⟩
  have hup : Where.upto s.used L L' := fun x hx => ⟨rfl, rfl⟩
  have hask : ∀ x, L'.has k x ↔ L.has k x ∨ L.blk j = some x := fun x => by
    simp only [Where.has, L', if_true, eq_self, List.mem_append, Option.mem_toList]
    constructor
    · rintro (h1 | h1 | h1)
      · exact .inl (.inl h1)
      · exact .inr h1
      · exact .inl (.inr h1)
    · rintro ((h1 | h1) | h1)
      · exact .inl h1
      · exact .inr (.inr h1)
      · exact .inr (.inl h1)
  have haso : ∀ x y, x ≠ k → (L'.has x y ↔ L.has x y) := fun x y h2 => by simp [Where.has, L', h2]
  have hob : ∀ x, (s.fold k i p j o c).ob x = if k = x then some (o.setSlot i p c) else if j = x then none else s.ob x := fun x => by
    show lk (ins k _ (del j s.h)) x = _
    rw [lk_ins, lk_del]; rfl
  have back : ∀ x o' b, (s.fold k i p j o c).ob x = some o' → o'.owns = true → L'.has x b → ∃ y oy, s.ob y = some oy ∧ oy.owns = true ∧ L.has y b ∧ ((x = k ∧ (y = k ∨ y = j)) ∨ (x ≠ k ∧ x ≠ j ∧ y = x)) := by
    intro x o' b hx hown hb
    rw [hob] at hx
    split at hx
    · rename_i e; subst e
      rw [hask] at hb
      rcases hb with hb | hb
      · exact ⟨k, o, ho, hoo, hb, .inl ⟨rfl, .inl rfl⟩⟩
      · exact ⟨j, o1, hj, hoj, .inl hb, .inl ⟨rfl, .inr rfl⟩⟩
    · rename_i e
      split at hx
      · cases hx
      · rename_i e2
        rw [haso x b (fun e3 => e e3.symm)] at hb
        exact ⟨x, o', hx, hown, hb, .inr ⟨fun e3 => e e3.symm, fun e3 => e2 e3.symm, rfl⟩⟩
  have hok : ∀ b, okOf C s L b → okOf C (s.fold k i p j o c) L' b := fun b hb => ⟨hb.1, fun x o' hx hown hh => by
    obtain ⟨y, oy, h1, h2, h3, _⟩ := back x o' b hx hown hh
    exact hb.2 y oy h1 h2 h3⟩
  have hnew : RepN C.P (okOf C (s.fold k i p j o c) L') w s.used L' v c := by
    cases c <;> simp only [openObj] at hc <;> try (cases hc; done)
    · rename_i e xs
      cases hc
      obtain ⟨_, hv2, _⟩ := hv
      obtain ⟨uss, sz, bs, a1, a2, a3, a4, a5, a6, a7, a8⟩ := hrj
      have hlen : (imR xs).length = xs.length := by simp [imR]
      refine ⟨uss, sz, bs, a1, a2, by rw [hlen] at a3; exact a3, by rw [hv2]; rw [hlen] at a4; exact a4, a6, a7.of_map_right fun u x hx => (hx.imL).imp fun _ _ h => h.mono fun b hb _ => hok b hb, a8⟩
    · rename_i t cs
      cases hc
      obtain ⟨_, b, hb, rfl⟩ := hv
      obtain ⟨b', vs, h1, h2, h3, h4⟩ := hrj
      rw [hb] at h1
      cases h1
      exact ⟨b, vs, rfl, h2, h3.imL.imp fun _ _ h => h.mono fun b hb _ => hok b hb, h4⟩
  refine ⟨L', h.os, h.tape, h.output, h.size, h.kept, h.nt, fun x => (h.tm x).move (fun b hb _ => ⟨hok b hb, rfl⟩) (fun _ h => h) hup, fun x o' hx => ?_, fun x x' o' o2 b hx hx' hown hown' hb hb' => ?_, fun x o' b hx hown hb => ?_, h.defers, h.pin⟩
  · rw [hob] at hx
    split at hx
    · rename_i e; subst e; cases hx
      refine ⟨hku, hput c _ _ L' (fun b hb _ => hok b hb) (fun _ h => h) hup hnew ?_⟩
      rw [hrc] at hsub
      rw [fpV_blk, hbv]
      have hbx : ∀ b, L.blk j = some b → b ∉ A ++ [] ++ B ∧ L.blk k ≠ some b := fun b hb => ⟨fun hm => hkj (h.inj k j o o1 b ho hj hoo hoj (.inr (hsub.2 b hm).1) (.inl hb)), fun hm => hkj (h.inj k j o o1 b ho hj hoo hoj (.inl hm) (.inl hb))⟩
      refine ⟨?_, fun x hx => ?_⟩
      · cases hbj : L.blk j with
        | none => simpa using hsub.1
        | some b =>
          have h1 := (hbx b hbj).1
          have h2 := hsub.1
          simp only [List.append_nil, List.mem_append, not_or] at h1 h2
          simp only [Option.toList_some, List.append_assoc]
          have h3 := List.nodup_append.1 h2
          refine List.nodup_append.2 ⟨h3.1, List.nodup_cons.2 ⟨h1.2, h3.2.1⟩, fun x hx y hy => ?_⟩
          rcases List.mem_cons.1 hy with rfl | hy
          · exact fun e => h1.1 (e ▸ hx)
          · exact h3.2.2 x hx y hy
      · have hcase : x ∈ A ++ [] ++ B ∨ L.blk j = some x := by
          simp only [List.mem_append, Option.mem_toList] at hx ⊢
          rcases hx with (hx | hx) | hx
          · exact .inl (.inl (.inl hx))
          · exact .inr hx
          · exact .inl (.inr hx)
        rcases hcase with hx | hx
        · have := hsub.2 x hx
          exact ⟨by simp only [L', if_true, eq_self, List.mem_append]; exact .inr this.1, this.2⟩
        · exact ⟨by simp only [L', if_true, eq_self, List.mem_append, Option.mem_toList]; exact .inl hx, (hbx x hx).2⟩
    · rename_i e
      split at hx
      · cases hx
      · obtain ⟨h1, h2⟩ := h.ob x o' hx
        exact ⟨h1, h2.move (fun b hb _ => ⟨hok b hb, rfl⟩) (fun _ h => h) h1 hup (by simp [L', show ¬ x = k from fun e3 => e e3.symm]) (fun _ _ _ => rfl)⟩
  · obtain ⟨y, oy, h1, h2, h3, h4⟩ := back x o' b hx hown hb
    obtain ⟨y', oy', h1', h2', h3', h4'⟩ := back x' o2 b hx' hown' hb'
    have := h.inj y y' oy oy' b h1 h1' h2 h2' h3 h3'
    subst this
    rcases h4 with ⟨e1, e2⟩ | ⟨e1, e2, e3⟩ <;> rcases h4' with ⟨f1, f2⟩ | ⟨f1, f2, f3⟩
    · rw [e1, f1]
    · rcases e2 with e2 | e2
      · exact absurd (f3.symm.trans e2) f1
      · exact absurd (f3.symm.trans e2) f2
    · rcases f2 with f2 | f2
      · exact absurd (e3.symm.trans f2) e1
      · exact absurd (e3.symm.trans f2) e2
    · exact e3.symm.trans f3
  · obtain ⟨y, oy, h1, h2, h3, _⟩ := back x o' b hx hown hb
    exact h.own y oy b h1 h2 h3

/-! ### frozen -/
def closeC : Cell → Option AV
  | .im x => some x
  | .orow e xs => some (.sl e xs)
  | .obox _ cs => some (.pt cs)
  | _ => none
def closeL : List Cell → Option (List AV)
  | [] => some []
  | c :: r => (match closeC c, closeL r with | some x, some l => some (x :: l) | _, _ => none)
def closeE : List (Value × Bool × List Cell) → Option (List (Value × Bool × List AV))
  | [] => some []
  | e :: r => (match closeL e.2.2, closeE r with | some xs, some l => some ((e.1, e.2.1, xs) :: l) | _, _ => none)
def closeR : List (List Cell) → Option (List (List AV))
  | [] => some []
  | x :: r => (match closeL x, closeR r with | some y, some l => some (y :: l) | _, _ => none)
theorem closeL_at : ∀ {cs : List Cell} {xs : List AV}, closeL cs = some xs → cs.length = xs.length ∧ ∀ (i : Nat) c, cs[i]? = some c → ∃ x, xs[i]? = some x ∧ closeC c = some x
  | [], xs, h => by cases h; exact ⟨rfl, fun i c h => by simp at h⟩
  | c :: r, xs, h => by
    simp only [closeL] at h
    split at h <;> try (cases h; done)
    rename_i x l h1 h2
    cases h
    obtain ⟨h3, h4⟩ := closeL_at h2
    refine ⟨by simp [h3], fun i d hd => ?_⟩
    cases i with
    | zero => simp at hd; subst hd; exact ⟨x, rfl, h1⟩
    | succ i => exact h4 i d (by simpa using hd)
theorem closeE_at : ∀ {es : List (Value × Bool × List Cell)} {es' : List (Value × Bool × List AV)}, closeE es = some es' → es.length = es'.length ∧ es.map (·.1) = es'.map (·.1) ∧ ∀ (i : Nat) e', es'[i]? = some e' → ∃ cs, es[i]? = some (e'.1, e'.2.1, cs) ∧ closeL cs = some e'.2.2
  | [], es', h => by cases h; exact ⟨rfl, rfl, fun i e h => by simp at h⟩
  | e :: r, es', h => by
    simp only [closeE] at h
    split at h <;> try (cases h; done)
    rename_i xs l h1 h2
    cases h
    obtain ⟨h3, h4, h5⟩ := closeE_at h2
    refine ⟨by simp [h3], by simp [h4], fun i d hd => ?_⟩
    cases i with
    | zero => simp at hd; subst hd; exact ⟨e.2.2, rfl, h1⟩
    | succ i => exact h5 i d (by simpa using hd)
theorem closeR_at : ∀ {xs : List (List Cell)} {ys : List (List AV)}, closeR xs = some ys → xs.length = ys.length ∧ ∀ (i : Nat) x, xs[i]? = some x → ∃ y, ys[i]? = some y ∧ closeL x = some y
  | [], xs, h => by cases h; exact ⟨rfl, fun i c h => by simp at h⟩
  | c :: r, xs, h => by
    simp only [closeR] at h
    split at h <;> try (cases h; done)
    rename_i x l h1 h2
    cases h
    obtain ⟨h3, h4⟩ := closeR_at h2
    refine ⟨by simp [h3], fun i d hd => ?_⟩
    cases i with
    | zero => simp at hd; subst hd; exact ⟨x, rfl, h1⟩
    | succ i => exact h4 i d (by simpa using hd)
theorem closeE_map {α : Type} (f : α → Value × Bool × List Cell) (g : α → Value × Bool × List AV) (h : ∀ x, (f x).1 = (g x).1 ∧ (f x).2.1 = (g x).2.1 ∧ closeL (f x).2.2 = some (g x).2.2) : ∀ l : List α, closeE (l.map f) = some (l.map g)
  | [] => rfl
  | x :: r => by
    obtain ⟨h1, h2, h3⟩ := h x
    simp only [List.map_cons, closeE, h3, closeE_map f g h r, h1, h2]
theorem closeR_map {α : Type} (f : α → List Cell) (g : α → List AV) (h : ∀ x, closeL (f x) = some (g x)) : ∀ l : List α, closeR (l.map f) = some (l.map g)
  | [] => rfl
  | x :: r => by simp only [List.map_cons, closeR, h x, closeR_map f g h r]
theorem RepN.close {P : Program} {ok ok' : Nat → Prop} {w : World} {U : Nat → Prop} {L : Where} {v : Value} {c : Cell} {x : AV} (h : RepN P ok w U L v c) (hc : closeC c = some x) (hok : ∀ b, ok b → b < w.heap.size → ok' b) (hf : ∀ b ∈ fpV v c, ok' b) : RepA P ok' w v x := by
  cases c <;> simp only [closeC] at hc <;> try (cases hc; done)
  case im y => cases hc; exact RepA.mono h hok
  case orow e xs =>
    cases hc
    obtain ⟨uss, sz, bs, hi, hs, hb, ho, hul, hal, hone⟩ := h
    rcases ho.2 with ⟨h1, h2⟩ | ⟨g, cap, cur, h1, _, hh, h3, h4, h5, h6⟩
    · obtain rfl := List.eq_nil_of_length_eq_zero h2
      rw [h1]; exact .nil
    · have := RepA.mkSl (P := P) (ok := ok') (w := w) (ad := ⟨g, 0, none⟩) (c := cap) (e := e) (xs := xs) (uss := uss) hi hs h3 h4 hb hul (fun q u hq => by rw [add_lit, Nat.zero_add]; exact row_cells ho (by rw [h1]; rfl) q u hq) (fun _ => hf g (by rw [fpV, h1]; simp [Value.ownBlock]))
        (hal.imp fun _ _ h => h.imp fun _ _ h => h.mono hok)
      rw [h1]; exact this
  case obox t cs =>
    cases hc
    obtain ⟨b, vs, rfl, hh, hal, hone⟩ := h
    refine .pt (fun i => vs.getD i undef) (fun i hi => ?_) (fun _ => hf b (by simp [fpV])) (fun i y hy => ?_)
    · rw [add_lit, cell_of_block hh, Nat.zero_add]
      have : i < vs.length := by rw [hal.1]; exact hi
      simp [List.getD_eq_getElem?_getD, List.getElem?_eq_getElem this]
    · obtain ⟨v, hv, hr⟩ := hal.get_right hy
      simp only [List.getD_eq_getElem?_getD, hv, Option.getD_some]
      exact hr.mono hok
theorem RepN.one {P : Program} {ok : Nat → Prop} {w : World} {U : Nat → Prop} {L : Where} {v : Value} {c : Cell} {x : AV} (h : RepN P ok w U L v c) (hc : closeC c = some x) : v.oneCell' = true := by
  cases c <;> simp only [closeC] at hc <;> try (cases hc; done)
  case im y => exact RepA.one h
  case orow e xs =>
    obtain ⟨uss, sz, bs, hi, hs, hb, ho, _⟩ := h
    obtain ⟨a, c, rfl, _⟩ := ownsRow_slice ho
    rfl
  case obox t cs => obtain ⟨b, vs, rfl, _⟩ := h; rfl
theorem range_getD (l : List Value) : (List.range l.length).map (fun i => l.getD i undef) = l := by
  apply List.ext_getElem?
  intro i
  simp only [List.getElem?_map]
  by_cases h : i < l.length
  · rw [List.getElem?_range h, List.getElem?_eq_getElem h]; simp [List.getD_eq_getElem?_getD, List.getElem?_eq_getElem h]
  · rw [List.getElem?_eq_none (by simpa using h), List.getElem?_eq_none (by simpa using h)]; rfl
/-- An object that owned its blocks is frozen: they may be read from now on. -/
theorem Sim.freezeO {C : Ctx} {s : St} {a : Act} {w : World} {L : Where} (h : Sim C s a w L) {k : Nat} {o : Obj} {x : AV} (hk : s.ob k = some o) (hown : o.owns = true) (hr : (∀ b, okOf C s L b → okOf C (s.putO k (.fro x)) L b) → (∀ b, L.has k b → okOf C (s.putO k (.fro x)) L b) → RepA C.P (okOf C (s.putO k (.fro x)) L) w (L.hv k) x) : Sim C (s.putO k (.fro x)) a w L := by
  have hok : ∀ b, okOf C s L b → okOf C (s.putO k (.fro x)) L b := by
    intro b hb
    refine ⟨hb.1, fun j o1 hj ho1 => ?_⟩
    rw [St.ob_putO] at hj
    split at hj
    · cases hj; simp [Obj.owns] at ho1
    · exact hb.2 j o1 hj ho1
  have hok2 : ∀ b, L.has k b → okOf C (s.putO k (.fro x)) L b := by
    intro b hb
    refine ⟨fun hlt => (h.own k _ b hk hown hb).2.elim (fun h => absurd hlt (Nat.not_lt.2 h)) .inr, fun j o1 hj ho1 he => ?_⟩
    rw [St.ob_putO] at hj
    split at hj
    · cases hj; simp [Obj.owns] at ho1
    · rename_i e1
      exact e1 (h.inj _ _ _ o1 b hk hj hown ho1 hb he)
  refine h.next rfl rfl (fun _ h => h) (Where.upto_refl _ _) (fun _ _ => rfl) (fun _ => False) rfl rfl ⟨rfl, Nat.le_refl _⟩ (Nat.le_refl _) (fun _ _ _ => rfl) (fun _ hx => hx.elim) (fun b hb _ => hok b hb) ?_ ?_ ?_
  · intro j o1 hj
    rw [St.ob_putO] at hj
    split at hj
    · rename_i e1
      subst e1
      cases hj
      exact .inr ⟨(h.ob _ _ hk).1, hr hok hok2⟩
    · exact .inl ⟨hj, fun _ _ _ hf => hf⟩
  · intro j j' o1 o2 b hj hj' ho1 ho2 hx hx'
    rw [St.ob_putO] at hj hj'
    split at hj <;> split at hj' <;> first | (cases hj; simp [Obj.owns] at ho1; done) | (cases hj'; simp [Obj.owns] at ho2; done) | exact h.inj j j' o1 o2 b hj hj' ho1 ho2 hx hx'
  · intro j o1 b hj ho1 hx
    rw [St.ob_putO] at hj
    split at hj
    · cases hj; simp [Obj.owns] at ho1
    · exact h.own j o1 b hj ho1 hx
theorem Sim.freezeM {C : Ctx} {s : St} {a : Act} {w : World} {L : Where} (h : Sim C s a w L) {k kt : Nat} {es : List (Value × Bool × List Cell)} {es' : List (Value × Bool × List AV)} (hk : s.ob k = some (.map kt es)) (hc : closeE es = some es') : Sim C (s.putO k (.fro (.mp kt es'))) a w L := by
  refine h.freezeO hk rfl fun hok hok2 => ?_
  obtain ⟨_, b, ms, clk, ⟨h1, h2, h3⟩, h4, h5, h6, h7, h8⟩ := h.ob k _ hk
  obtain ⟨c1, c2, c3⟩ := closeE_at hc
  rw [h2]
  have get : ∀ (j : Nat) (m : MapEntry) (e : Value × Bool × List AV), ms[j]? = some m → es'[j]? = some e → m.key = e.1 ∧ ∃ vs : List Value, m.val = mval e.2.1 vs ∧ (e.2.1 = false → e.2.2.length = 1) ∧ m.val.cells.toList = vs ∧ Al (RepA C.P (okOf C (s.putO k (.fro (.mp kt es'))) L) w) vs e.2.2 := by
    intro j m e hm he
    obtain ⟨cs, hcs, hcl⟩ := c3 j e he
    obtain ⟨hk1, hk2⟩ := h5.2 j m _ hm hcs
    obtain ⟨l1, l2⟩ := closeL_at hcl
    refine ⟨hk1, ?_⟩
    have hk2 : RepM C.P (okOf C s L) w s.used L m.val (e.2.1, cs) := hk2
    have hfp : ∀ b, b ∈ fpM m.val (e.2.1, cs) → okOf C (s.putO k (.fro (.mp kt es'))) L b := fun b hb => hok2 b (.inr (h8.2 b (mem_fpE hm hcs hb)).1)
    unfold RepM at hk2
    cases hg : e.2.1 with
    | true =>
      rw [hg] at hk2
      obtain ⟨vs, hv1, hv2⟩ := hk2
      refine ⟨vs, by simpa [mval] using hv1, by simp, by rw [hv1]; simp [Value.cells], ⟨hv2.1.trans l1, fun i u y hu hy => ?_⟩⟩
      have hil : i < cs.length := by rw [l1]; exact (List.getElem?_eq_some_iff.1 hy).1
      obtain ⟨y', hy', hcy⟩ := l2 i _ (List.getElem?_eq_getElem hil)
      rw [hy] at hy'
      cases hy'
      have hrc := hv2.2 i u _ hu (List.getElem?_eq_getElem hil)
      exact (RepN.plain hrc).close hcy (fun b hb _ => hok b hb) (by rw [fpV_plain hrc.no_own]; simp)
    | false =>
      rw [hg] at hk2 hfp
      obtain ⟨c, hcc, hn⟩ := hk2
      have hcc : cs = [c] := hcc
      subst hcc
      obtain ⟨y, hy, hcy⟩ := l2 0 c rfl
      have hy2 : e.2.2 = [y] := by
        match hx : e.2.2, l1 with
        | [z], _ => rw [hx] at hy; simp at hy; rw [hy]
      refine ⟨[m.val], by simp [mval], fun _ => by rw [hy2]; rfl, by rw [cells_one (hn.one hcy)], ?_⟩
      rw [hy2]
      exact Al.cons (hn.close hcy (fun b hb _ => hok b hb) fun b hb => hfp b hb) Al.nil
  refine .mp (ms := ms) (clk := clk) (fun j i => ((ms[j]?.map (·.val.cells.toList)).getD []).getD i undef) h4 (hok2 b (.inl h1)) (h5.1.trans c1) (fun j m e hm he => ?_) h6 h7 (by rw [← c2]; exact h3) (fun j i e y he hy => ?_)
  · obtain ⟨g1, vs, g2, g3, g4, g5⟩ := get j m e hm he
    refine ⟨g1, ?_, g3⟩
    simp only [hm, Option.map_some, Option.getD_some, g4]
    rw [← g5.1, range_getD]
    exact g2
  · have hj : j < ms.length := by rw [h5.1, c1]; exact (List.getElem?_eq_some_iff.1 he).1
    obtain ⟨g1, vs, g2, g3, g4, g5⟩ := get j _ e (List.getElem?_eq_getElem hj) he
    simp only [List.getElem?_eq_getElem hj, Option.map_some, Option.getD_some, g4]
    obtain ⟨u, hu, hr⟩ := g5.get_right hy
    simp only [List.getD_eq_getElem?_getD, hu, Option.getD_some]
    exact hr
theorem Sim.freezeR {C : Ctx} {s : St} {a : Act} {w : World} {L : Where} (h : Sim C s a w L) {k e : Nat} {xs : List (List Cell)} {ys : List (List AV)} (hk : s.ob k = some (.nrow e xs)) (hc : closeR xs = some ys) : Sim C (s.putO k (.fro (.sl e ys))) a w L := by
  refine h.freezeO hk rfl fun hok hok2 => ?_
  obtain ⟨_, uss, sz, bs, hi, hs, hb, ho, hblk, hul, hal, hone, hsub⟩ := h.ob k _ hk
  obtain ⟨c1, c2⟩ := closeR_at hc
  rcases ho.2 with ⟨h1, h2⟩ | ⟨g, cap, cur, h1, _, hh, h3, h4, h5, h6⟩
  · have : ys = [] := List.eq_nil_of_length_eq_zero (by omega)
    subst this
    rw [h1]; exact .nil
  · have hb2 : L.blk k = some g := by rw [← hblk, h1]; rfl
    have hal2 : Al (Al (RepA C.P (okOf C (s.putO k (.fro (.sl e ys))) L) w)) uss ys := by
      refine ⟨hal.1.trans c1, fun j u y hu hy => ?_⟩
      have hjl : j < xs.length := by rw [c1]; exact (List.getElem?_eq_some_iff.1 hy).1
      have hx := List.getElem?_eq_getElem hjl
      obtain ⟨y', hy', hcl⟩ := c2 j _ hx
      rw [hy] at hy'
      cases hy'
      obtain ⟨l1, l2⟩ := closeL_at hcl
      have hux := hal.2 j u _ hu hx
      refine ⟨hux.1.trans l1, fun i v z hv hz => ?_⟩
      have hil : i < (xs[j]).length := by rw [l1]; exact (List.getElem?_eq_some_iff.1 hz).1
      obtain ⟨z', hz', hcz⟩ := l2 i _ (List.getElem?_eq_getElem hil)
      rw [hz] at hz'
      cases hz'
      exact (hux.2 i v _ hv (List.getElem?_eq_getElem hil)).close hcz (fun b hb _ => hok b hb) fun b hb => hok2 b (.inr (hsub.2 b (mem_fpR hu hx (mem_fpL hv (List.getElem?_eq_getElem hil) hb))).1)
    have := RepA.mkSl (P := C.P) (ok := okOf C (s.putO k (.fro (.sl e ys))) L) (w := w) (ad := ⟨g, 0, none⟩) (c := cap) (e := e) (xs := ys) (uss := uss) hi hs (by rw [← c1]; exact h3) h4 (by rw [← c1]; exact hb) hul (fun q u hq => by rw [add_lit, Nat.zero_add]; exact row_cells ho (by rw [h1]; rfl) q u hq) (fun _ => hok2 g (.inl hb2)) hal2
    rw [h1, c1]; exact this
/-- A nil slice is an empty row of the cell's own. -/
inductive CN (P : Program) : Cell → Cell → Prop where
  | same (c : Cell) : CN P c c
  | nil {e sz bs : Nat} (he : EInfo P e = some (sz, bs)) (hs : 0 < sz) : CN P (.im (.flat (.slice none 0 0))) (.orow e [])
theorem CN.rep {P : Program} {ok : Nat → Prop} {w : World} {U : Nat → Prop} {L : Where} {v : Value} {c c' : Cell} (h : CN P c c') (hv : RepC P ok w U L v c) : RepN P ok w U L v c' ∧ fpV v c' = [] := by
  cases h with
  | same => exact ⟨RepN.plain hv, fpV_plain hv.no_own⟩
  | @nil e sz bs he hs =>
    have hv := RepA.flat_eq (show RepA P ok w v (.flat (.slice none 0 0)) from hv)
    subst hv
    exact ⟨⟨[], sz, bs, he, hs, by simp, World.ownsRow_nil w 0 e sz, by simp, Al.nil, by simp⟩, rfl⟩
theorem fpL_nil : ∀ {vs : List Value} {cs : List Cell}, (∀ (i : Nat) v c, vs[i]? = some v → cs[i]? = some c → fpV v c = []) → fpL vs cs = []
  | [], _, _ => rfl
  | _ :: _, [], _ => rfl
  | v :: vs, c :: cs, h => by
    have := fpL_nil (vs := vs) (cs := cs) fun i v c h1 h2 => h (i + 1) v c (by simpa using h1) (by simpa using h2)
    simp only [fpL, List.zipWith_cons_cons, List.flatten_cons] at this ⊢
    rw [this, h 0 v c rfl rfl]; rfl
theorem fpR_nil : ∀ {vs : List (List Value)} {cs : List (List Cell)}, (∀ (i : Nat) v c, vs[i]? = some v → cs[i]? = some c → fpL v c = []) → fpR vs cs = []
  | [], _, _ => rfl
  | _ :: _, [], _ => rfl
  | v :: vs, c :: cs, h => by
    have := fpR_nil (vs := vs) (cs := cs) fun i v c h1 h2 => h (i + 1) v c (by simpa using h1) (by simpa using h2)
    simp only [fpR, List.zipWith_cons_cons, List.flatten_cons] at this ⊢
    rw [this, h 0 v c rfl rfl]; rfl
theorem Sim.toN {C : Ctx} {s : St} {a : Act} {w : World} {L : Where} (h : Sim C s a w L) {k e : Nat} {xs ys : List (List Cell)} (hk : s.ob k = some (.row e xs)) (hc : Al (Al (CN C.P)) xs ys) : Sim C (s.putO k (.nrow e ys)) a w L := by
  have hok : ∀ b, okOf C s L b → okOf C (s.putO k (.nrow e ys)) L b := by
    intro b hb
    refine ⟨hb.1, fun j o1 hj ho1 => ?_⟩
    rw [St.ob_putO] at hj
    split at hj
    · rename_i e1; subst e1; exact hb.2 _ _ hk rfl
    · exact hb.2 j o1 hj ho1
  refine h.next rfl rfl (fun _ h => h) (Where.upto_refl _ _) (fun _ _ => rfl) (fun _ => False) rfl rfl ⟨rfl, Nat.le_refl _⟩ (Nat.le_refl _) (fun _ _ _ => rfl) (fun _ hx => hx.elim) (fun b hb _ => hok b hb) ?_ ?_ ?_
  · intro j o1 hj
    rw [St.ob_putO] at hj
    split at hj
    · rename_i e1
      subst e1
      cases hj
      refine .inr ⟨(h.ob _ _ hk).1, ?_⟩
      obtain ⟨_, uss, sz, bs, hi, hs, hb, ho, hblk, hul, hal, hone⟩ := h.ob _ _ hk
      have key : ∀ (j : Nat) (u : List Value) (y : List Cell), uss[j]? = some u → ys[j]? = some y → ∀ (i : Nat) (v : Value) (c : Cell), u[i]? = some v → y[i]? = some c → RepN C.P (okOf C s L) w s.used L v c ∧ fpV v c = [] := by
        intro j u y hu hy i v c hv hcc
        obtain ⟨x, hx, hxy⟩ := hc.get_right hy
        obtain ⟨d, hd, hdc⟩ := hxy.get_right hcc
        exact hdc.rep ((hal.2 j u x hu hx).2 i v d hv hd)
      have hal2 : Al (Al (RepN C.P (okOf C (s.putO k (.nrow e ys)) L) w s.used L)) uss ys := by
        refine ⟨hal.1.trans hc.1, fun j u y hu hy => ⟨?_, fun i v c hv hcc => ?_⟩⟩
        · obtain ⟨x, hx, hxy⟩ := hc.get_right hy
          exact (hal.2 j u x hu hx).1.trans hxy.1
        · obtain ⟨k1, k2⟩ := key j u y hu hy i v c hv hcc
          exact k1.move (fun b hb _ => ⟨hok b hb, rfl⟩) (fun _ h => h) (Where.upto_refl _ _) (fun _ _ => rfl)
      refine ⟨uss, sz, bs, hi, hs, by rw [← hc.1]; exact hb, by rw [← hc.1]; exact ho, hblk, hul, hal2, hone, ?_⟩
      rw [fpR_nil fun j u y hu hy => fpL_nil fun i v c hv hcc => (key j u y hu hy i v c hv hcc).2]
      exact ⟨List.nodup_nil, by simp⟩
    · exact .inl ⟨hj, fun _ _ _ hf => hf⟩
  · intro j j' o1 o2 b hj hj' ho1 ho2 hx hx'
    rw [St.ob_putO] at hj hj'
    split at hj <;> split at hj'
    · rename_i e1 e2; exact e1.symm.trans e2
    · rename_i e1 e2; subst e1; exact h.inj _ _ _ o2 b hk hj' rfl ho2 hx hx'
    · rename_i e1 e2; subst e2; exact h.inj _ _ o1 _ b hj hk ho1 rfl hx hx'
    · exact h.inj j j' o1 o2 b hj hj' ho1 ho2 hx hx'
  · intro j o1 b hj ho1 hx
    rw [St.ob_putO] at hj
    split at hj
    · rename_i e1; subst e1; exact h.own _ _ b hk rfl hx
    · exact h.own j o1 b hj ho1 hx

/-! ### told as steps -/
section
variable {C : Ctx} {s s' : St}
theorem Fits.unf (k i p j : Nat) {o o1 : Obj} {c : Cell} (hex : s.ex = []) (ho : s.ob k = some o) (hs : o.slot i p = some c) (hj : Nat.ble s.nx j = true) (hc : openObj c = some o1) (h : Fits C (s.unf k i p j o c o1) s') : Fits C s s' := fun a w hS => h a w (hS.unf hex ho hs hj hc)
theorem Fits.fold (k i p j : Nat) (c : Cell) {o o1 : Obj} (ho : s.ob k = some o) (hc : openObj c = some o1) (hj : s.ob j = some o1) (hs : o.slot i p = some (refCell j c)) (hkj : k ≠ j) (h : Fits C (s.fold k i p j o c) s') : Fits C s s' := fun a w hS => h a w (hS.fold ho hc hj hs hkj)
theorem Fits.freezeM (k : Nat) {kt : Nat} {es : List (Value × Bool × List Cell)} {es' : List (Value × Bool × List AV)} (hk : s.ob k = some (.map kt es)) (hc : closeE es = some es') (h : Fits C (s.putO k (.fro (.mp kt es'))) s') : Fits C s s' := fun a w ⟨L, hS⟩ => h a w ⟨L, hS.freezeM hk hc⟩
theorem Fits.freezeR (k : Nat) {e : Nat} {xs : List (List Cell)} {ys : List (List AV)} (hk : s.ob k = some (.nrow e xs)) (hc : closeR xs = some ys) (h : Fits C (s.putO k (.fro (.sl e ys))) s') : Fits C s s' := fun a w ⟨L, hS⟩ => h a w ⟨L, hS.freezeR hk hc⟩
theorem Fits.freeze (k : Nat) {e : Nat} {xs : List (List Cell)} {ys : List (List AV)} (hk : s.ob k = some (.row e xs)) (hc : unim xs = some ys) (h : Fits C (s.putO k (.fro (.sl e ys))) s') : Fits C s s' := fun a w ⟨L, hS⟩ => h a w ⟨L, hS.freeze (by rw [hk, unim_spec hc])⟩
theorem Fits.toN (k : Nat) {e : Nat} {xs : List (List Cell)} (ys : List (List Cell)) (hk : s.ob k = some (.row e xs)) (hc : Al (Al (CN C.P)) xs ys) (h : Fits C (s.putO k (.nrow e ys)) s') : Fits C s s' := fun a w ⟨L, hS⟩ => h a w ⟨L, hS.toN hk hc⟩
/-- A frozen row, map or variable is a tree. -/
theorem RepC.frozen {P : Program} {ok : Nat → Prop} {w : World} {U : Nat → Prop} {L : Where} {v : Value} {k : Nat} {x : AV} (hx : RepA P ok w (L.hv k) x) (h : RepC P ok w U L v (.ref k) ∨ RepC P ok w U L v (.mp k)) : RepC P ok w U L v (.im x) := by
  rcases h with ⟨_, rfl, _⟩ | ⟨_, rfl, _⟩ <;> exact hx
end
theorem unf_def (t h nx ex nt k i p j o c o1) : St.unf ⟨t, h, nx, ex, nt⟩ k i p j o c o1 = ⟨t, ins j o1 (ins k (o.setSlot i p (refCell j c)) h), j + 1, ex, nt⟩ := (rfl)
theorem fold_def (t h nx ex nt k i p j o c) : St.fold ⟨t, h, nx, ex, nt⟩ k i p j o c = ⟨t, ins k (o.setSlot i p c) (del j h), nx, ex, nt⟩ := (rfl)
theorem putO_def (t h nx ex nt k o) : St.putO ⟨t, h, nx, ex, nt⟩ k o = ⟨t, ins k o h, nx, ex, nt⟩ := (rfl)
theorem put_def (t h nx ex nt d v) : St.put ⟨t, h, nx, ex, nt⟩ (some d) v = ⟨ins d v t, h, nx, ex, nt⟩ := (rfl)
attribute [go_sem] unf_def fold_def putO_def put_def Obj.slot Obj.setSlot openObj refCell closeC closeL closeE closeR seeT lookTV okTV mapK noOwnO Cell.own1 noOwn Cell.see seeL keyV flats St.mpc St.mpf keyC
end Go.Exe
