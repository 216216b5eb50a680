/-
  Xp: slices.SortFunc on a row of the run's own: what it leaves, from the library's own contract.
-/
import Derived.Test.YtegcmciglakicaaXo
import Derived.Shelf.GgSortFunc.RowK
namespace Go.Exe
open Go.RowKit
set_option linter.unusedVariables false
set_option linter.unusedSimpArgs false

def sortW (enc : Nat → List Value) (k : Nat) (w : World) (blk m : Nat) (d : Array Nat) (os : Array Go.Obj) : World := Sort.grow (Sort.putRowK enc k (Sort.ahead w m) blk 0 d) os
/-- What is asked of a program's SortFunc at elements of k cells (the elements told by their places). -/
structure SortC (P : Program) (f k : Nat) : Prop where
  ok : CallOk P f
  nil0 : ∀ (p : Option Addr) (cap : Nat) (fv : Value) (w : World), Calls P f #[.slice p 0 cap, fv] w fun e w' => e = .returned (.tuple #[]) ∧ w' = w
  full : ∀ (enc : Nat → List Value) (cf : Nat → Nat → Int) (g blk cap n : Nat) (w : World), (∀ x, (enc x).length = k) → (∀ x, ∀ v ∈ enc x, v.oneCell' = true) → Sort.SWO (fun x y : Nat => decide (cf x y < 0)) → (∀ args w, (callFunc g args).run P w = .ok (.enter g args) w) →
    (∀ (m : Nat) (os : Array Go.Obj) (d : Array Nat), d.size = n → ∀ x y : Nat, Calls P g #[.agg (enc x).toArray, .agg (enc y).toArray] (sortW enc k w blk m d os) fun e w' => e = .returned (.int .i64 (cf x y)) ∧ ∃ q os', w' = Sort.grow ((sortW enc k w blk m d os).drewN q) os') →
    Sort.HoldsK enc k w blk 0 (Array.range n) → blk < w.heap.size → n < 4611686018427387904 →
    Calls P f #[.slice (some ⟨blk, 0, none⟩) n cap, .func (.func g) #[] #[]] w fun e w' => e = .returned (.tuple #[]) ∧ ∃ d' m os, Sort.PermIn 0 n (Array.range n) d' ∧ Sort.SortedIn (fun x y : Nat => decide (cf x y < 0)) 0 n d' ∧ w' = sortW enc k w blk m d' os
/-- An order (strict, weak) on the members of a list. -/
structure OrdOn {τ : Type} (cm : τ → τ → Int) (ys : List τ) : Prop where
  irrefl : ∀ x ∈ ys, ¬ cm x x < 0
  trans : ∀ x ∈ ys, ∀ y ∈ ys, ∀ z ∈ ys, cm x y < 0 → cm y z < 0 → cm x z < 0
  ntrans : ∀ x ∈ ys, ∀ y ∈ ys, ∀ z ∈ ys, ¬ cm x y < 0 → ¬ cm y z < 0 → ¬ cm x z < 0

section
variable {C : Ctx} {s : St} {a : Act} {w : World} {L : Where}
theorem world_grown {W w' : World} (hb : Below W.heap.size W w') (hd : W.drawn ≤ w'.drawn) : ∃ q os', w' = Sort.grow (W.drewN q) os' := by
  refine ⟨w'.drawn - W.drawn, w'.heap.extract W.heap.size, ?_⟩
  have hheap : w'.heap = W.heap ++ w'.heap.extract W.heap.size := by
    apply Array.ext_getElem?
    intro i
    rw [Array.getElem?_append]
    by_cases hi : i < W.heap.size
    · rw [if_pos hi]; exact hb.block i hi
    · rw [if_neg hi, Array.getElem?_extract]
      have h1 := hb.size
      simp only [Nat.min_self]
      by_cases h2 : i < w'.heap.size
      · rw [if_pos (by omega)]; congr 1; omega
      · rw [if_neg (by omega), Array.getElem?_eq_none (by omega)]
  have h1 := hb.os
  have h2 := hb.tape
  have h3 := hb.output
  cases w' with
  | mk heap tape drawn os output =>
    simp only at h1 h2 h3 hd hheap
    simp only [Sort.grow, World.drewN, World.mk.injEq]
    exact ⟨hheap, h2, by omega, h1, h3⟩
theorem putRowK_heap (enc : Nat → List Value) (k : Nat) (w : World) (g : Nat) (d : Array Nat) {cur : Array Value} {e : TypeId} {fr : Nat × Nat} (hg : w.heap[g]? = some (.cells cur e fr)) :
    (Sort.putRowK enc k w g 0 d).heap[g]? = some (.cells (Sort.putCells id 0 (Sort.flatK enc k d) cur) e fr) := by
  simp [Sort.putRowK, Sort.putRow, Sort.mapBlock, Array.getElem?_modify, hg, Sort.onCells]
theorem putRowK_other (enc : Nat → List Value) (k : Nat) (w : World) (g : Nat) (d : Array Nat) {b : Nat} (hb : b ≠ g) : (Sort.putRowK enc k w g 0 d).heap[b]? = w.heap[b]? := by
  simp only [Sort.putRowK, Sort.putRow, Sort.mapBlock, Array.getElem?_modify]
  rw [if_neg (fun e => hb e.symm)]
theorem range_get (n i : Nat) (h : i < n) : (Array.range n)[i]! = i := by
  rw [getElem!_pos _ i (by simpa using h)]; simp

/-- The members' places: the last place stands for all beyond. -/
def at_ {α : Type} [Inhabited α] (l : List α) (n i : Nat) : α := l.getD (min i (n - 1)) default
theorem at_mem {α : Type} [Inhabited α] {l : List α} {n : Nat} (hn : l.length = n) (h0 : 0 < n) (i : Nat) : ∃ x, l[min i (n - 1)]? = some x ∧ at_ l n i = x ∧ x ∈ l := by
  have hlt : min i (n - 1) < l.length := by omega
  exact ⟨l[min i (n - 1)], List.getElem?_eq_getElem hlt, by simp [at_, List.getD_eq_getElem?_getD, List.getElem?_eq_getElem hlt], List.getElem_mem hlt⟩
theorem at_lt {α : Type} [Inhabited α] {l : List α} {n : Nat} (hn : l.length = n) {i : Nat} (h : i < n) : l[i]? = some (at_ l n i) := by
  have : min i (n - 1) = i := Nat.min_eq_left (by omega)
  simp [at_, this, List.getD_eq_getElem?_getD, List.getElem?_eq_getElem (show i < l.length by omega)]
theorem map_at {α : Type} [Inhabited α] {l : List α} {n : Nat} (hn : l.length = n) : (List.range n).map (at_ l n) = l := by
  apply List.ext_getElem?
  intro i
  rw [List.getElem?_map]
  by_cases h : i < n
  · rw [List.getElem?_range h, at_lt hn h]; rfl
  · rw [List.getElem?_eq_none (by simp; omega), List.getElem?_eq_none (by omega)]; rfl
theorem perm_range {n : Nat} {d : Array Nat} (h : Sort.PermIn 0 n (Array.range n) d) : d.size = n ∧ d.toList.Perm (List.range n) := by
  obtain ⟨h1, _, h3⟩ := h
  have hs : d.size = n := by simpa using h1
  refine ⟨hs, ?_⟩
  have e1 : d.extract 0 n = d := by rw [← hs]; simp
  have e2 : (Array.range n).extract 0 n = Array.range n := by
    have : (Array.range n).size = n := by simp
    conv => lhs; rw [show n = (Array.range n).size by simp]
    simp
  rw [e1, e2] at h3
  simpa using h3
theorem Sim.sort (h : Sim C s a w L) {τ : Type} [Inhabited τ] (av : τ → List AV) {r e k bs f g n cap : Nat} {ys zs : List τ} {cm : τ → τ → Int} {gb : Nat}
    (hr : s.ob r = some (.row e (imR (ys.map av)))) (hv : L.hv r = .slice (some ⟨gb, 0, none⟩) n cap) (hn : 0 < n) (hlen : ys.length = n) (he : EInfo C.P e = some (k, bs)) (hbs : 0 < bs) (hc : SortC C.P f k)
    (hg : ∀ x ∈ ys, ∀ y ∈ ys, PCall C.P g [.g (imL (av x)), .g (imL (av y))] (ft (.int .i64 (cm x y)))) (hord : OrdOn cm ys)
    (hu : ∀ zs' : List τ, zs'.Perm ys → zs'.Pairwise (fun a b => ¬ cm b a < 0) → zs' = zs) :
    Calls C.P f #[.slice (some ⟨gb, 0, none⟩) n cap, .func (.func g) #[] #[]] w fun e1 w' => e1 = .returned (.tuple #[]) ∧ ∃ L', Sim C (s.putO r (.row e (imR (zs.map av)))) a w' L' := by
  obtain ⟨hur, uss, sz, bs', hi, hs0, hb, ho, hblk, hul, hal, hone⟩ := h.ob r _ hr
  rw [he] at hi
  cases hi
  have hown := ho
  rw [hv] at ho hblk
  have hlR : (imR (ys.map av)).length = n := by simp [imR, hlen]
  rw [hlR] at ho hb
  rcases ho.2 with ⟨h1, _⟩ | ⟨g', cap, cur, h1, _, hgb, hnc, hcm, hcs, htake⟩
  · cases h1
  cases h1
  have hgblk : L.blk r = some gb := hblk.symm
  have hno : ¬ okOf C s L gb := fun hx => hx.2 r _ hr rfl (.inl hgblk)
  have hul2 : uss.length = n := by rw [hal.1, hlR]
  have hfl : uss.flatten.length = n * k := by rw [flatten_length _ hul, hul2]
  let enc : Nat → List Value := at_ uss n
  let tr : Nat → τ := at_ ys n
  have henc : ∀ x, (enc x).length = k := fun x => by
    obtain ⟨u, _, h2, h3⟩ := at_mem hul2 hn x
    show (at_ uss n x).length = k
    rw [h2]; exact hul u h3
  have h1c : ∀ x, ∀ v ∈ enc x, v.oneCell' = true := fun x v hv => by
    obtain ⟨u, _, h2, h3⟩ := at_mem hul2 hn x
    have : v ∈ u := by rw [← h2]; exact hv
    exact hone v (List.mem_flatten.2 ⟨u, h3, this⟩)
  have htr : ∀ x, tr x ∈ ys := fun x => by
    obtain ⟨u, _, h2, h3⟩ := at_mem hlen hn x
    show at_ ys n x ∈ ys
    rw [h2]; exact h3
  have hpair : ∀ x, Al (RepC C.P (okOf C s L) w s.used L) (enc x) (imL (av (tr x))) := fun x => by
    obtain ⟨u, hu1, hu2, _⟩ := at_mem hul2 hn x
    obtain ⟨t, ht1, ht2, _⟩ := at_mem hlen hn x
    show Al _ (at_ uss n x) (imL (av (at_ ys n x)))
    rw [hu2, ht2]
    exact hal.2 _ _ _ hu1 (by simp only [imR, List.getElem?_map, ht1, Option.map_some])
  have hO : Sort.SWO (fun x y : Nat => decide (cm (tr x) (tr y) < 0)) :=
    ⟨fun x => by simpa using hord.irrefl _ (htr x),
     fun x y z h1 h2 => by simp only [decide_eq_true_eq] at *; exact hord.trans _ (htr x) _ (htr y) _ (htr z) h1 h2,
     fun x y z h1 h2 => by simp only [decide_eq_false_iff_not] at *; exact hord.ntrans _ (htr x) _ (htr y) _ (htr z) h1 h2⟩
  have hsz : gb < w.heap.size := (Array.getElem?_eq_some_iff.1 hgb).1
  have hWheap : ∀ (m : Nat) (os : Array Go.Obj) (d : Array Nat) (b : Nat), b ≠ gb → b < w.heap.size → (sortW enc k w gb m d os).heap[b]? = w.heap[b]? := by
    intro m os d b hb1 hb2
    have e1 : (Sort.putRowK enc k (Sort.ahead w m) gb 0 d).heap.size = w.heap.size := by simp [Sort.putRowK]
    show ((Sort.putRowK enc k (Sort.ahead w m) gb 0 d).heap ++ os)[b]? = _
    rw [Array.getElem?_append_left (by rw [e1]; exact hb2), putRowK_other _ _ _ _ _ hb1]
    rfl
  have hcmp : ∀ (m : Nat) (os : Array Go.Obj) (d : Array Nat), d.size = n → ∀ x y : Nat, Calls C.P g #[.agg (enc x).toArray, .agg (enc y).toArray] (sortW enc k w gb m d os) fun e w' => e = .returned (.int .i64 (cm (tr x) (tr y))) ∧ ∃ q os', w' = Sort.grow ((sortW enc k w gb m d os).drewN q) os' := by
    intro m os d hd x y
    obtain ⟨hcall, hrun⟩ := hg _ (htr x) _ (htr y)
    have hrep : ∀ x, RepT C.P (fun b => okOf C s L b ∧ b < w.heap.size) (sortW enc k w gb m d os) U0 L0 (.agg (enc x).toArray) (.g (imL (av (tr x)))) := fun x => by
      refine ⟨enc x, rfl, ⟨(hpair x).1, fun i u c hu hc => ?_⟩⟩
      have h1 := (hpair x).2 i u c hu hc
      simp only [imL, List.getElem?_map, Option.map_eq_some_iff] at hc
      obtain ⟨z, _, rfl⟩ := hc
      exact RepA.move h1 fun b hb hlt => ⟨⟨hb, hlt⟩, hWheap m os d b (fun e => hno (e ▸ hb)) hlt⟩
    have := hrun (fun b => okOf C s L b ∧ b < w.heap.size) (sortW enc k w gb m d os) [.agg (enc x).toArray, .agg (enc y).toArray] (Al.cons (hrep x) (Al.cons (hrep y) Al.nil))
    refine this.mono fun e1 w' ⟨v, h1, ⟨h2, h3⟩, h4⟩ => ?_
    have h4 : RepA C.P _ w' v (.flat (.int .i64 (cm (tr x) (tr y)))) := h4
    rw [RepA.flat_eq h4] at h1
    exact ⟨h1, world_grown h2 h3⟩
  have hcellF : ∀ (d : Array Nat) (t : Nat), d.size = n → t < n * k → (Sort.flatK enc k d)[t]! = (enc d[t / k]!)[t % k]! := fun d t hd ht => Sort.get_flatK enc k d t (by rw [hd]; exact ht)
  have hdiv : ∀ t, t < n * k → t / k < n := fun t ht => Nat.div_lt_of_lt_mul (by rw [Nat.mul_comm]; exact ht)
  have hH : Sort.HoldsK enc k w gb 0 (Array.range n) := by
    intro t ht
    rw [Sort.size_flatK, Array.size_range] at ht
    have hq := hdiv t ht
    have hm := Nat.mod_lt t hs0
    have hcur : cur[t]? = uss.flatten[t]? := by
      rw [← htake, List.getElem?_take, if_pos ht]; simp
    have hflat : uss.flatten[t]? = (enc (t / k))[t % k]? := by
      have := flatten_get uss hul (t / k) (t % k) hm
      rw [Nat.mul_comm, Nat.div_add_mod] at this
      rw [this, at_lt hul2 hq]; rfl
    have hsome : (enc (t / k))[t % k]? = some ((enc (t / k))[t % k]!) := by
      rw [getElem!_pos _ _ (by rw [henc]; exact hm)]; exact List.getElem?_eq_getElem _
    refine ⟨?_, ?_⟩
    · rw [hcellF _ _ (by simp) ht, range_get _ _ hq, Nat.zero_add]
      rw [World.cell?]
      simp only [hgb]
      rw [hcur, hflat, hsome]; rfl
    · simp [World.frozen?, hgb]
  have hn62 : n < 4611686018427387904 := by
    have : n ≤ n * bs := Nat.le_mul_of_pos_right _ hbs
    omega
  obtain ⟨fg, hfg1, hfg2, hfg3⟩ := (hg _ (htr 0) _ (htr 0)).1
  have eg : ∀ args w, (callFunc g args).run C.P w = .ok (.enter g args) w := by
    intro args w
    have h4 : fg.body.isNone = false := by cases hb : fg.body <;> simp_all
    have h5 : ¬ fg.name = "runtime.NumGoroutine" := by simpa using hfg3
    simp [callFunc, Sem.run_bind, hfg1, h5]
    intro hb
    rw [hb] at hfg2
    cases hfg2
  have hrun := hc.full enc (fun x y => cm (tr x) (tr y)) g gb cap n w henc h1c hO eg hcmp hH hsz hn62
  refine hrun.mono fun e1 w' ⟨h1, d, m, os, hperm, hsorted, hw⟩ => ⟨h1, ?_⟩
  obtain ⟨hds, hdp⟩ := perm_range hperm
  have hzs : d.toList.map tr = zs := by
    refine hu _ ?_ ?_
    · have := hdp.map tr
      rw [show (List.range n).map tr = ys from map_at hlen] at this
      exact this
    · rw [List.pairwise_map, List.pairwise_iff_getElem]
      intro i j hi hj hij
      have hi' : i < n := by simpa [hds] using hi
      have hj' : j < n := by simpa [hds] using hj
      have h2 := hsorted i j (Nat.zero_le _) hij hj'
      simp only [decide_eq_false_iff_not] at h2
      rw [getElem!_pos d j (by omega), getElem!_pos d i (by omega)] at h2
      simpa using h2
  have hzl : zs.length = n := by rw [← hzs]; simp [hds]
  have hzR : (imR (zs.map av)).length = n := by simp [imR, hzl]
  -- the row turned
  have hL : Sim C (s.putO r (.row e (imR (zs.map av)))) a (Sort.putRowK enc k w gb 0 d) L := by
    refine h.write hr rfl rfl (.inl hgblk) rfl rfl ⟨rfl, Nat.le_refl _⟩ (by simp [Sort.putRowK]) (fun b hb => putRowK_other _ _ _ _ _ hb) fun hm => ?_
    have hul3 : ∀ u ∈ d.toList.map enc, u.length = k := fun u hu => by
      obtain ⟨x, _, rfl⟩ := List.mem_map.1 hu; exact henc x
    refine ⟨d.toList.map enc, k, bs, he, hs0, by rw [hzR]; exact hb, ?_, by rw [hv]; exact hblk, hul3, ?_, ?_⟩
    · rw [hzR, hv]
      refine ⟨by rw [flatten_length _ hul3]; simp [hds], .inr ⟨gb, cap, _, rfl, Nat.zero_le _, putRowK_heap enc k w gb d hgb, hnc, hcm, by simp [Sort.putCells, hcs], ?_⟩⟩
      apply List.ext_getElem?
      intro t
      rw [List.getElem?_take]
      by_cases ht : t < n * k
      · rw [if_pos ht]
        have hq := hdiv t ht
        have hm2 := Nat.mod_lt t hs0
        have hfl2 : ((d.toList.map enc).flatten)[t]? = (enc d[t / k]!)[t % k]? := by
          have := flatten_get _ hul3 (t / k) (t % k) hm2
          rw [Nat.mul_comm, Nat.div_add_mod] at this
          rw [this, List.getElem?_map, Array.getElem?_toList, Array.getElem?_eq_getElem (by omega), getElem!_pos d _ (by omega)]
          rfl
        have hct : t < cur.size := by
          have : n * k ≤ cap * k := Nat.mul_le_mul_right _ hnc
          omega
        rw [hfl2, Array.getElem?_toList]
        simp only [Sort.putCells, Array.getElem?_mapIdx, Array.getElem?_eq_getElem hct, Option.map_some]
        rw [if_pos ⟨Nat.zero_le _, by rw [Sort.size_flatK, hds]; omega⟩, Nat.sub_zero, hcellF d t hds ht]
        rw [getElem!_pos _ _ (by rw [henc]; exact hm2)]
        exact (List.getElem?_eq_getElem _).symm
      · rw [if_neg ht, List.getElem?_eq_none (by rw [flatten_length _ hul3]; simp [hds]; omega)]
    · refine ⟨by simp [imR, hzl, hds], fun i u t hu ht => ?_⟩
      rw [← hzs] at ht
      simp only [imR, List.getElem?_map, Option.map_eq_some_iff] at hu ht
      obtain ⟨x, hx, rfl⟩ := hu
      obtain ⟨t', ⟨t2, ⟨x', hx', rfl⟩, rfl⟩, rfl⟩ := ht
      rw [hx] at hx'
      cases hx'
      exact (hpair x).imp fun _ _ hcc => hcc.move hm (fun _ h => h) (Where.upto_refl _ _)
    · intro v hv
      obtain ⟨u, hu, hvu⟩ := List.mem_flatten.1 hv
      obtain ⟨x, _, rfl⟩ := List.mem_map.1 hu
      exact h1c x v hvu
  refine ⟨L, ?_⟩
  have h2 := hL.draw (w.drawn + m) (Nat.le_add_right _ _)
  rw [hw]
  refine Sim.below (w := Sort.putRowK enc k (Sort.ahead w m) gb 0 d) h2 ⟨⟨rfl, rfl, rfl, by simp [sortW, Sort.grow], fun b hb => ?_⟩, Nat.le_refl _⟩
  show (_ ++ os)[b]? = _
  rw [Array.getElem?_append_left hb]

theorem fnOf_eval (hs : Sim C s a w L) {y : Operand} {f : Nat} (hy : fnOf (s.ev y) = some (f, [])) : a.eval y = .func (.func f) #[] #[] := by
  have hv := hs.ev y
  unfold fnOf at hy
  split at hy <;> try (cases hy; done)
  · rename_i f' caps hf
    cases hy
    rw [hf] at hv
    obtain ⟨vs, h1, h2⟩ := hv
    obtain rfl := h2.nil_right
    exact h1
  · rename_i f' first cap hf
    split at hy <;> try (cases hy; done)
    rename_i h1 h2
    cases hy
    rw [hf] at hv
    have := RepA.flat_eq hv
    rw [this]
    have h3 : first = #[] := by cases first; simp at h1; subst h1; rfl
    have h4 : cap = #[] := by cases cap; simp at h2; subst h2; rfl
    rw [h3, h4]
theorem AX.sort {τ : Type} [Inhabited τ] (av : τ → List AV) {o : Oper} {k0 : Nat} {K : List Key → List Upd → Prop} {y a1 a2 : Operand} {ts : Array TypeId} {f g r e k bs : Nat} {xs : List (List Cell)} {ys zs : List τ} {cm : τ → τ → Int} (ho : o.op = .call { callee := .value y, args := #[a1, a2], argTypes := ts }) (hy : fnOf (s.ev y) = some (f, [])) (h1 : s.ev a1 = .c (.ref r)) (hr : s.ob r = some (.row e xs)) (hx : xs = imR (ys.map av)) (h2 : fnOf (s.ev a2) = some (g, []))
    (he : EInfo C.P e = some (k, bs)) (hbs : 0 < bs) (hc : SortC C.P f k) (hg : ∀ x ∈ ys, ∀ y ∈ ys, PCall C.P g [.g (imL (av x)), .g (imL (av y))] (ft (.int .i64 (cm x y)))) (hord : OrdOn cm ys)
    (hz : zs.Perm ys) (hu : ∀ zs' : List τ, zs'.Perm ys → zs'.Pairwise (fun a b => ¬ cm b a < 0) → zs' = zs) (hd : dstOk o.dst s.nt = true)
    (h : K (opK y ++ (opK a1 ++ (opK a2 ++ [.h r]))) (.set r (.row e (imR (zs.map av))) :: dU o.dst (.t []))) : AX C k0 o s K := by
  subst hx
  refine ⟨_, _, fun s1 hag hn hk => ?_, fun u hu2 j hj => ?_, h⟩
  · show OpOk C o s1 ((s1.putO r (.row e (imR (zs.map av)))).ups (dU o.dst (.t [])))
    rw [ups_dU]
    intro a w ⟨L, hs⟩ next Q hnext
    have e0 : s1.ev y = s.ev y := agree_ev hag (by intro x hx; simp [hx])
    have e1 : s1.ev a1 = s.ev a1 := agree_ev hag (by intro x hx; simp [hx])
    have e2 : s1.ev a2 = s.ev a2 := agree_ev hag (by intro x hx; simp [hx])
    have e3 : s1.ob r = some (.row e (imR (ys.map av))) := by rw [agree_ob hag (k := r) (by simp)]; exact hr
    have hfn : a.eval y = .func (.func f) #[] #[] := fnOf_eval hs (by rw [e0]; exact hy)
    have hgn : a.eval a2 = .func (.func g) #[] #[] := fnOf_eval hs (by rw [e2]; exact h2)
    have hv1 := hs.ev a1
    rw [e1, h1] at hv1
    obtain ⟨_, hv1, _⟩ := hv1
    have hlz : zs.length = ys.length := hz.length_eq
    have hob := hs.ob r _ e3
    obtain ⟨_, uss, sz, bs', _, _, _, ho', hblk, _⟩ := hob
    unfold Oper.wp
    rw [run_call ho hfn hc.ok]
    have e4 : ((#[a1, a2] : Array Operand).map a.eval ++ #[] : Array Value) = #[a.eval a1, a.eval a2] := by simp
    rw [e4, hv1, hgn]
    have hdst : ∀ i, o.dst = some i → i < s1.nt := by rw [hn]; exact dstOk_spec hd
    by_cases h0 : ys = []
    · subst h0
      obtain rfl : zs = [] := List.eq_nil_of_length_eq_zero (by simpa using hlz)
      obtain ⟨ad, cap, hv, _⟩ := ownsRow_slice ho'
      rw [hv]
      refine (hc.nil0 ad cap _ w).mono fun e w' ⟨h3, h4⟩ => ?_
      subst h3; subst h4
      have hS : S C (s1.putO r (.row _ (imR (([] : List τ).map av)))) a w' := S_eqv ⟨L, hs⟩ ⟨fun _ => rfl, fun j => by
        rw [St.ob_putO]; split
        · rename_i e; subst e; exact e3
        · rfl, fun _ => Iff.rfl, rfl⟩
      obtain ⟨L', hs'⟩ := hS
      exact hnext _ _ ⟨L', hs'.put o.dst hdst ⟨[], rfl, Al.nil⟩⟩
    · have hpos : 0 < ys.length := List.length_pos_iff.2 h0
      rcases ho'.2 with ⟨_, h3⟩ | ⟨gb, cap, cur, hv, _⟩
      · simp [imR] at h3; exact absurd h3 h0
      · have hlR : (imR (ys.map av)).length = ys.length := by simp [imR]
        rw [hlR] at hv
        rw [hv]
        have := hs.sort av (zs := zs) (cm := cm) e3 hv hpos rfl he hbs hc hg hord hu
        refine this.mono fun e w' ⟨h3, L', hs'⟩ => ?_
        subst h3
        exact hnext _ _ ⟨L', hs'.put o.dst hdst ⟨[], rfl, Al.nil⟩⟩
  · simp only [List.mem_cons] at hu2
    rcases hu2 with rfl | hu2
    · exact hj.elim
    · exact (given_dU u hu2 j hj).elim
end
end Go.Exe
