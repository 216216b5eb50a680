/-
  Xa: abstract states of a Go function's run, and when a machine's state is one. Plain values are trees; what the run owns lies in objects with numbers of their own.
-/
import Derived.Orders
import Derived.Below
import Derived.Maps.AppendAt
import Derived.RowKit3
import Derived.Laws.Rows
import Derived.Maps.Keyed
import Derived.Maps.RangeRun
namespace Go.Exe
open Go.RowKit

/-! ### lists, place by place -/
def Al {α β : Type} (R : α → β → Prop) (l : List α) (m : List β) : Prop := l.length = m.length ∧ ∀ (i : Nat) (a : α) (b : β), l[i]? = some a → m[i]? = some b → R a b
section al
variable {α β : Type} {R S : α → β → Prop} {l l' : List α} {m m' : List β} {a : α} {b : β}
theorem Al.nil : Al R [] [] := ⟨rfl, fun i _ _ h => by simp at h⟩
theorem Al.cons (h : R a b) (k : Al R l m) : Al R (a :: l) (b :: m) := by
  refine ⟨by simp [k.1], fun i x y hx hy => ?_⟩
  cases i with
  | zero => simp at hx hy; subst hx; subst hy; exact h
  | succ i => simp at hx hy; exact k.2 i x y hx hy
theorem Al.cons_iff : Al R (a :: l) (b :: m) ↔ R a b ∧ Al R l m := by
  refine ⟨fun h => ⟨h.2 0 a b rfl rfl, by simpa using h.1, fun i x y hx hy => h.2 (i + 1) x y (by simpa using hx) (by simpa using hy)⟩, fun h => .cons h.1 h.2⟩
theorem Al.nil_left (h : Al R [] m) : m = [] := List.eq_nil_of_length_eq_zero (by simpa using h.1.symm)
theorem Al.nil_right (h : Al R l []) : l = [] := List.eq_nil_of_length_eq_zero (by simpa using h.1)
theorem Al.cons_right {l : List α} (h : Al R l (b :: m)) : ∃ a r, l = a :: r ∧ R a b ∧ Al R r m := by
  cases l with
  | nil => simp [Al] at h
  | cons a r => exact ⟨a, r, rfl, Al.cons_iff.1 h⟩
theorem Al.imp (h : Al R l m) (f : ∀ a b, R a b → S a b) : Al S l m := ⟨h.1, fun i a b ha hb => f a b (h.2 i a b ha hb)⟩
theorem Al.imp_mem (h : Al R l m) (f : ∀ a b, a ∈ l → b ∈ m → R a b → S a b) : Al S l m := ⟨h.1, fun i a b ha hb => f a b (List.mem_of_getElem? ha) (List.mem_of_getElem? hb) (h.2 i a b ha hb)⟩
theorem Al.append (h : Al R l m) (k : Al R l' m') : Al R (l ++ l') (m ++ m') := by
  refine ⟨by simp [h.1, k.1], fun i a b ha hb => ?_⟩
  rcases Nat.lt_or_ge i l.length with hi | hi
  · rw [List.getElem?_append_left hi] at ha
    rw [List.getElem?_append_left (h.1 ▸ hi)] at hb
    exact h.2 i a b ha hb
  · rw [List.getElem?_append_right hi] at ha
    rw [List.getElem?_append_right (h.1 ▸ hi)] at hb
    exact k.2 _ a b ha (h.1 ▸ hb)
theorem Al.set (h : Al R l m) (i : Nat) (k : R a b) : Al R (l.set i a) (m.set i b) := by
  refine ⟨by simp [h.1], fun j x y hx hy => ?_⟩
  by_cases e : i = j
  · subst e
    by_cases hi : i < l.length
    · rw [List.getElem?_set_self hi] at hx
      rw [List.getElem?_set_self (h.1 ▸ hi)] at hy
      cases hx; cases hy; exact k
    · rw [List.getElem?_eq_none (by simpa using hi)] at hx
      cases hx
  · rw [List.getElem?_set_ne e] at hx hy
    exact h.2 j x y hx hy
theorem Al.take (h : Al R l m) (n : Nat) : Al R (l.take n) (m.take n) := by
  refine ⟨by simp [h.1], fun i a b ha hb => ?_⟩
  rw [List.getElem?_take] at ha hb
  split at ha
  · rename_i hi; rw [if_pos hi] at hb; exact h.2 i a b ha hb
  · cases ha
theorem Al.drop (h : Al R l m) (n : Nat) : Al R (l.drop n) (m.drop n) := by
  refine ⟨by simp [h.1], fun i a b ha hb => ?_⟩
  rw [List.getElem?_drop] at ha hb
  exact h.2 _ a b ha hb
theorem Al.get_right (h : Al R l m) {i : Nat} (hb : m[i]? = some b) : ∃ a, l[i]? = some a ∧ R a b := by
  have hi : i < l.length := by rw [h.1]; exact (List.getElem?_eq_some_iff.1 hb).1
  exact ⟨l[i], List.getElem?_eq_getElem hi, h.2 i _ b (List.getElem?_eq_getElem hi) hb⟩
theorem Al.get_left (h : Al R l m) {i : Nat} (ha : l[i]? = some a) : ∃ b, m[i]? = some b ∧ R a b := by
  have hi : i < m.length := by rw [← h.1]; exact (List.getElem?_eq_some_iff.1 ha).1
  exact ⟨m[i], List.getElem?_eq_getElem hi, h.2 i a _ ha (List.getElem?_eq_getElem hi)⟩
theorem Al.map {γ δ : Type} {T : γ → δ → Prop} (h : Al R l m) (f : α → γ) (g : β → δ) (k : ∀ a b, R a b → T (f a) (g b)) : Al T (l.map f) (m.map g) := by
  refine ⟨by simp [h.1], fun i x y hx hy => ?_⟩
  simp only [List.getElem?_map, Option.map_eq_some_iff] at hx hy
  obtain ⟨a, ha, rfl⟩ := hx
  obtain ⟨b, hb, rfl⟩ := hy
  exact k a b (h.2 i a b ha hb)
theorem Al.map_right {γ : Type} {T : α → γ → Prop} (h : Al R l m) (g : β → γ) (k : ∀ a b, R a b → T a (g b)) : Al T l (m.map g) := by
  have := Al.map (T := T) h id g (by simpa using k)
  simpa using this
theorem Al.of_map_right {γ : Type} {T : α → γ → Prop} {g : β → γ} (h : Al T l (m.map g)) (k : ∀ a b, T a (g b) → R a b) : Al R l m := by
  refine ⟨by simpa using h.1, fun i a b ha hb => k a b (h.2 i a (g b) ha (by simp [hb]))⟩
end al

/-- Rows of one width, one behind the other: where an element's part lies. -/
theorem flatten_get {α : Type} {sz : Nat} : ∀ (uss : List (List α)), (∀ u ∈ uss, u.length = sz) → ∀ (j i : Nat), i < sz → uss.flatten[j * sz + i]? = (uss[j]?).bind (·[i]?)
  | [], _, j, i, _ => by simp
  | u :: r, h, 0, i, hi => by
    have hu : u.length = sz := h u (by simp)
    simp only [List.flatten_cons, Nat.zero_mul, Nat.zero_add]
    rw [List.getElem?_append_left (by omega)]
    simp
  | u :: r, h, j + 1, i, hi => by
    have hu : u.length = sz := h u (by simp)
    simp only [List.flatten_cons]
    rw [List.getElem?_append_right (by rw [hu, Nat.add_mul]; omega), hu, show (j + 1) * sz + i - sz = j * sz + i by rw [Nat.add_mul]; omega]
    rw [flatten_get r (fun u hu => h u (by simp [hu])) j i hi]
    simp
theorem flatten_length {α : Type} {sz : Nat} : ∀ (uss : List (List α)), (∀ u ∈ uss, u.length = sz) → uss.flatten.length = uss.length * sz
  | [], _ => by simp
  | u :: r, h => by
    simp only [List.flatten_cons, List.length_append, List.length_cons]
    rw [flatten_length r (fun u hu => h u (by simp [hu])), h u (by simp), Nat.add_mul]
    omega
theorem flatten_at {α : Type} {sz : Nat} (hs : 0 < sz) {uss : List (List α)} (h : ∀ u ∈ uss, u.length = sz) {q : Nat} {x : α} (hq : uss.flatten[q]? = some x) : ∃ u, uss[q / sz]? = some u ∧ u[q % sz]? = some x := by
  have := flatten_get uss h (q / sz) (q % sz) (Nat.mod_lt _ hs)
  rw [Nat.mul_comm, Nat.div_add_mod, hq] at this
  cases hu : uss[q / sz]? with
  | none => simp [hu] at this
  | some u => exact ⟨u, rfl, by simpa [hu] using this.symm⟩

/-! ### values -/
/-- What a cell holds that nobody writes any more: a flat value; a slice with its elements' cells; a pointer with what it points to; a closure with what it has captured; a map. -/
inductive AV where
  | flat (v : Value)
  | sl (e : TypeId) (xs : List (List AV))
  | sn (e : TypeId) (xs : List (List AV))
  | pt (xs : List AV)
  | fn (f : Nat) (cs : List AV)
  | mp (kt : TypeId) (es : List (Value × Bool × List AV))
  deriving Inhabited
/-- What a cell of the run's own holds. -/
inductive Cell where
  | im (x : AV)
  | ref (k : Nat)
  | ptr (k o : Nat)
  | rp (k sz j o : Nat)
  | ip (xs : List AV)
  | mp (k : Nat)
  | clo (f : Nat) (caps : List (Nat × Nat))
  | vw (k sz lo n : Nat)
  | orow (e : TypeId) (xs : List (List AV))
  | obox (t : TypeId) (cs : List AV)
  | dead
  deriving Inhabited
inductive TV where
  | c (x : Cell)
  | g (xs : List Cell)
  | t (ys : List (Bool × List Cell))
  deriving Inhabited
inductive Obj where
  | box (t : TypeId) (cs : List Cell)
  | row (e : TypeId) (xs : List (List Cell))
  | nrow (e : TypeId) (xs : List (List Cell))
  | fro (x : AV)
  | map (kt : TypeId) (es : List (Value × Bool × List Cell))
  | itf (kt : TypeId) (es : List (Value × Bool × List AV)) (seen : List Nat)
  deriving Inhabited
def Obj.owns : Obj → Bool
  | .fro _ => false
  | _ => true

/-- An element type's cells and bytes. -/
def EInfo (P : Program) (e : TypeId) : Option (Nat × Nat) := (P.info? e).map fun i => (i.size, i.bytes)

/-- A map's value, out of its cells. -/
def mval (b : Bool) (vs : List Value) : Value := if b = true then .agg vs.toArray else vs.headD undef
/-- A map's keys: of the key's type, each once. -/
def Keys (P : Program) (kt : TypeId) (ks : List Value) : Prop := (∀ k ∈ ks, ∃ l, keyOf P kt k = some l) ∧ ks.Nodup
inductive RepA (P : Program) (ok : Nat → Prop) (w : World) : Value → AV → Prop where
  | flat {v : Value} (h : v.oneCell' = true) : RepA P ok w v (.flat v)
  | nil {e : TypeId} : RepA P ok w (.slice none 0 0) (.sl e [])
  | sl {e : TypeId} {xs : List (List AV)} {a : Addr} {n c sz bs : Nat} (us : Nat → Nat → Value) (hi : EInfo P e = some (sz, bs)) (hs : 0 < sz) (hn : xs.length = n) (hc : n ≤ c) (hm : c ≤ maxLen)
    (hb : n * bs ≤ 140737488355328) (hl : ∀ (j : Nat) (x : List AV), xs[j]? = some x → x.length = sz) (hcell : ∀ j i, j < n → i < sz → w.cell? (a.add (j * sz + i)) = some (us j i)) (hok : 0 < n → ok a.block)
    (hr : ∀ (j i : Nat) (x : List AV) (y : AV), xs[j]? = some x → x[i]? = some y → RepA P ok w (us j i) y) : RepA P ok w (.slice (some a) n c) (.sl e xs)
  | sn {v : Value} {e : TypeId} {xs : List (List AV)} (h : RepA P ok w v (.sl e xs)) (hn : v ≠ .slice none 0 0) : RepA P ok w v (.sn e xs)
  | pt {xs : List AV} {a : Addr} (us : Nat → Value) (hcell : ∀ i, i < xs.length → w.cell? (a.add i) = some (us i)) (hok : 0 < xs.length → ok a.block) (hr : ∀ (i : Nat) (y : AV), xs[i]? = some y → RepA P ok w (us i) y) : RepA P ok w (.pointer (some a)) (.pt xs)
  | fn {f : Nat} {cs : List AV} (us : Nat → Value) (hr : ∀ (i : Nat) (y : AV), cs[i]? = some y → RepA P ok w (us i) y) : RepA P ok w (.func (.func f) #[] ((List.range cs.length).map us).toArray) (.fn f cs)
  | mpn {kt : TypeId} : RepA P ok w (.map none) (.mp kt [])
  | mp {kt : TypeId} {es : List (Value × Bool × List AV)} {b clk : Nat} {ms : List MapEntry} (us : Nat → Nat → Value) (hh : w.heap[b]? = some (.map ms.toArray clk)) (hok : ok b) (hl : ms.length = es.length)
    (hk : ∀ (j : Nat) (m : MapEntry) (e : Value × Bool × List AV), ms[j]? = some m → es[j]? = some e → m.key = e.1 ∧ m.val = mval e.2.1 ((List.range e.2.2.length).map (us j)) ∧ (e.2.1 = false → e.2.2.length = 1))
    (hb : ∀ m ∈ ms, m.born < clk) (hn : (ms.map (·.born)).Nodup) (hkey : Keys P kt (es.map (·.1)))
    (hr : ∀ (j i : Nat) (e : Value × Bool × List AV) (y : AV), es[j]? = some e → e.2.2[i]? = some y → RepA P ok w (us j i) y) : RepA P ok w (.map (some b)) (.mp kt es)

theorem add_block (a : Addr) (n : Nat) : (a.add n).block = a.block := by unfold Addr.add; split <;> rfl
theorem add_zero (a : Addr) : a.add 0 = a := rfl
theorem add_add (a : Addr) (i j : Nat) : (a.add i).add j = a.add (i + j) := by
  unfold Addr.add
  by_cases hi : i = 0 <;> by_cases hj : j = 0 <;> simp [hi, hj, Nat.add_assoc]
theorem add_lit (b i j : Nat) : (⟨b, i, none⟩ : Addr).add j = ⟨b, i + j, none⟩ := by unfold Addr.add; split <;> simp_all

section repA
variable {P : Program} {ok ok' : Nat → Prop} {w w' : World} {v : Value} {x : AV}
theorem RepA.one (h : RepA P ok w v x) : v.oneCell' = true := by
  induction h with
  | flat h => exact h
  | nil => rfl
  | sl => rfl
  | sn _ _ ih => exact ih
  | pt => rfl
  | fn => rfl
  | mpn => rfl
  | mp => rfl
theorem RepA.move (h : RepA P ok w v x) (k : ∀ b, ok b → b < w.heap.size → ok' b ∧ w'.heap[b]? = w.heap[b]?) : RepA P ok' w' v x := by
  induction h with
  | flat h => exact .flat h
  | nil => exact .nil
  | @sl e xs a n c sz bs us hi hs hn hc hm hb hl hcell hok hr ih =>
    have hlt : 0 < n → a.block < w.heap.size := fun h0 => by
      have := World.block_lt_of_cell? w _ (hcell 0 0 h0 hs)
      rwa [add_block] at this
    refine .sl us hi hs hn hc hm hb hl (fun j i hj hi => ?_) (fun h0 => (k _ (hok h0) (hlt h0)).1) ih
    have h0 : 0 < n := by omega
    rw [World.cell?_of_block (w := w) (by rw [add_block]; exact (k _ (hok h0) (hlt h0)).2)]
    exact hcell j i hj hi
  | sn h hn ih => exact .sn ih hn
  | @pt xs a us hcell hok hr ih =>
    have hlt : 0 < xs.length → a.block < w.heap.size := fun h0 => by
      have := World.block_lt_of_cell? w _ (hcell 0 h0)
      rwa [add_block] at this
    refine .pt us (fun i hi => ?_) (fun h0 => (k _ (hok h0) (hlt h0)).1) ih
    have h0 : 0 < xs.length := by omega
    rw [World.cell?_of_block (w := w) (by rw [add_block]; exact (k _ (hok h0) (hlt h0)).2)]
    exact hcell i hi
  | fn us hr ih => exact .fn us ih
  | mpn => exact .mpn
  | mp us hh hok hl hk hb hn hkey hr ih =>
    have hk2 := k _ hok (Array.getElem?_eq_some_iff.1 hh).1
    exact .mp us (by rw [hk2.2]; exact hh) hk2.1 hl hk hb hn hkey ih
theorem RepA.bound (h : RepA P ok w v x) : RepA P (fun b => ok b ∧ b < w.heap.size) w v x := h.move fun _ h1 h2 => ⟨⟨h1, h2⟩, rfl⟩
theorem RepA.mono (h : RepA P ok w v x) (k : ∀ b, ok b → b < w.heap.size → ok' b) : RepA P ok' w v x := h.move fun b h1 h2 => ⟨k b h1 h2, rfl⟩

/-- A slice laid open: its cells, element by element. -/
theorem RepA.openSl {e : TypeId} {xs : List (List AV)} (h : RepA P ok w v (.sl e xs)) :
    ∃ a n c, v = .slice a n c ∧ xs.length = n ∧ n ≤ c ∧ c ≤ maxLen ∧ ((a = none ∧ n = 0 ∧ c = 0) ∨ ∃ ad sz bs, a = some ad ∧ ∃ uss : List (List Value), EInfo P e = some (sz, bs) ∧ 0 < sz ∧ n * bs ≤ 140737488355328 ∧
      (∀ u ∈ uss, u.length = sz) ∧ (∀ q u, uss.flatten[q]? = some u → w.cell? (ad.add q) = some u) ∧ (0 < n → ok ad.block) ∧ Al (Al (RepA P ok w)) uss xs) := by
  cases h with
  | nil => exact ⟨none, 0, 0, rfl, rfl, Nat.le_refl _, Nat.zero_le _, .inl ⟨rfl, rfl, rfl⟩⟩
  | @sl e xs a n c sz bs us hi hs hn hc hm hb hl hcell hok hr =>
    have hu : ∀ u ∈ (List.range n).map (fun j => (List.range sz).map (us j)), u.length = sz := by
      intro u hu
      simp only [List.mem_map] at hu
      obtain ⟨j, _, rfl⟩ := hu
      simp
    refine ⟨some a, n, c, rfl, hn, hc, hm, .inr ⟨a, sz, bs, rfl, (List.range n).map (fun j => (List.range sz).map (us j)), hi, hs, hb, hu, ?_, hok, ?_⟩⟩
    · intro q u hq
      obtain ⟨u', h1, h2⟩ := flatten_at hs hu hq
      simp only [List.getElem?_map, Option.map_eq_some_iff] at h1
      obtain ⟨j, hj, rfl⟩ := h1
      obtain ⟨hj1, hj2⟩ := List.getElem?_eq_some_iff.1 hj
      simp only [List.length_range] at hj1
      simp only [List.getElem_range] at hj2
      simp only [List.getElem?_map, Option.map_eq_some_iff] at h2
      obtain ⟨i, hi2, rfl⟩ := h2
      obtain ⟨hi3, hi4⟩ := List.getElem?_eq_some_iff.1 hi2
      simp only [List.length_range] at hi3
      simp only [List.getElem_range] at hi4
      have := hcell j i (by omega) (by omega)
      rw [← hj2, ← hi4, Nat.mul_comm, Nat.div_add_mod] at this
      rw [this, ← hj2, ← hi4]
    · refine ⟨by simp [hn], fun j u x hu hx => ?_⟩
      simp only [List.getElem?_map, Option.map_eq_some_iff] at hu
      obtain ⟨j', hj, rfl⟩ := hu
      obtain ⟨hj1, hj2⟩ := List.getElem?_eq_some_iff.1 hj
      simp only [List.getElem_range] at hj2
      subst hj2
      refine ⟨by simp [hl _ _ hx], fun i v y hv hy => ?_⟩
      simp only [List.getElem?_map, Option.map_eq_some_iff] at hv
      obtain ⟨i', hi2, rfl⟩ := hv
      obtain ⟨hi3, hi4⟩ := List.getElem?_eq_some_iff.1 hi2
      simp only [List.getElem_range] at hi4
      subst hi4
      exact hr _ _ _ _ hx hy
theorem RepA.mkSl {e : TypeId} {xs : List (List AV)} {ad : Addr} {c sz bs : Nat} {uss : List (List Value)} (hi : EInfo P e = some (sz, bs)) (hs : 0 < sz) (hc : xs.length ≤ c) (hm : c ≤ maxLen) (hb : xs.length * bs ≤ 140737488355328)
    (hu : ∀ u ∈ uss, u.length = sz) (hcell : ∀ q u, uss.flatten[q]? = some u → w.cell? (ad.add q) = some u) (hok : 0 < xs.length → ok ad.block) (hr : Al (Al (RepA P ok w)) uss xs) : RepA P ok w (.slice (some ad) xs.length c) (.sl e xs) := by
  refine .sl (fun j i => ((uss.getD j []).getD i undef)) hi hs rfl hc hm hb (fun j x hx => ?_) (fun j i hj hi => ?_) hok (fun j i x y hx hy => ?_)
  · obtain ⟨u, h1, h2⟩ := hr.get_right hx
    rw [← h2.1]
    exact hu u (List.mem_of_getElem? h1)
  · refine hcell _ _ ?_
    have hj' : j < uss.length := by rw [hr.1]; exact hj
    rw [flatten_get uss hu j i hi]
    have hl := hu uss[j] (List.getElem_mem _)
    simp [List.getD_eq_getElem?_getD, List.getElem?_eq_getElem hj', List.getElem?_eq_getElem (show i < (uss[j]).length by omega)]
  · obtain ⟨u, h1, h2⟩ := hr.get_right hx
    obtain ⟨z, h3, h4⟩ := h2.get_right hy
    simp [List.getD_eq_getElem?_getD, h1, h3]
    exact h4
end repA
end Go.Exe
