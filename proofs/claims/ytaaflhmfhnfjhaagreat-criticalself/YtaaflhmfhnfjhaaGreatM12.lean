/-
  CriticalSelf: at every story and every id the law answers true: Self gives each span of the first trace the time in which none of the spans it waits for runs.
-/
import Derived.Test.YtaaflhmfhnfjhaaGreatM3
import Derived.Test.YtaaflhmfhnfjhaaGreatM10
import Derived.Test.YtaaflhmfhnfjhaaGreatM7
import Derived.Test.YtaaflhmfhnfjhaaGreatM11
set_option linter.unusedVariables false
set_option linter.unusedSimpArgs false
set_option maxHeartbeats 8000000
set_option maxRecDepth 100000
namespace Go.Exe
open Go.RowKit

/-! ### slices.SortFunc with a function value that has captured something, told up to a choice -/
structure SortD (P : Program) (f k : Nat) : Prop where
  ok : CallOk P f
  nil0 : ∀ (p : Option Addr) (cap : Nat) (fv : Value) (w : World), Calls P f #[.slice p 0 cap, fv] w fun e w' => e = .returned (.tuple #[]) ∧ w' = w
  full : ∀ (enc : Nat → List Value) (cf : Nat → Nat → Int) (g : Nat) (cb : Array Value) (blk cap n : Nat) (w : World), (∀ x, (enc x).length = k) → (∀ x, ∀ v ∈ enc x, v.oneCell' = true) → Sort.SWO (fun x y : Nat => decide (cf x y < 0)) → (∀ args w, (callFunc g args).run P w = .ok (.enter g args) w) →
    (∀ (m : Nat) (os : Array Go.Obj) (d : Array Nat), d.size = n → ∀ x y : Nat, Calls P g (#[.agg (enc x).toArray, .agg (enc y).toArray] ++ cb) (sortW enc k w blk m d os) fun e w' => e = .returned (.int .i64 (cf x y)) ∧ ∃ q os', w' = Sort.grow ((sortW enc k w blk m d os).drewN q) os') →
    Sort.HoldsK enc k w blk 0 (Array.range n) → blk < w.heap.size → n < 4611686018427387904 →
    Calls P f #[.slice (some ⟨blk, 0, none⟩) n cap, .func (.func g) #[] cb] w fun e w' => e = .returned (.tuple #[]) ∧ ∃ d' m os, Sort.PermIn 0 n (Array.range n) d' ∧ Sort.SortedIn (fun x y : Nat => decide (cf x y < 0)) 0 n d' ∧ w' = sortW enc k w blk m d' os
section
variable {C : Ctx} {s : St} {a : Act} {w : World} {L : Where}
theorem Sim.sortD (h : Sim C s a w L) {τ : Type} [Inhabited τ] (av : τ → List AV) {r e k bs f g n cap : Nat} {ys : List τ} {cm : τ → τ → Int} {gb : Nat} {cvs : List Value} {caps : List AV}
    (hr : s.ob r = some (.row e (imR (ys.map av)))) (hv : L.hv r = .slice (some ⟨gb, 0, none⟩) n cap) (hn : 0 < n) (hlen : ys.length = n) (he : EInfo C.P e = some (k, bs)) (hbs : 0 < bs) (hc : SortD C.P f k)
    (hcv : Al (RepA C.P (okOf C s L) w) cvs caps) (hg : ∀ x ∈ ys, ∀ y ∈ ys, PCall C.P g ([.g (imL (av x)), .g (imL (av y))] ++ caps.map fun c => .c (.im c)) (ft (.int .i64 (cm x y)))) (hord : OrdOn cm ys) :
    Calls C.P f #[.slice (some ⟨gb, 0, none⟩) n cap, .func (.func g) #[] cvs.toArray] w fun e1 w' => e1 = .returned (.tuple #[]) ∧ ∃ zs : List τ, zs.Perm ys ∧ zs.Pairwise (fun a b => ¬ cm b a < 0) ∧ ∃ L', Sim C (s.putO r (.row e (imR (zs.map av)))) a w' L' := by
  obtain ⟨hur, uss, sz, bs', hi, hs0, hb, ho, hblk, hul, hal, hone⟩ := h.ob r _ hr
  rw [he] at hi
  cases hi
  have hown := ho
  rw [hv] at ho hblk
  have hlR : (imR (ys.map av)).length = n := by simp [imR, hlen]
  rw [hlR] at ho hb
  rcases ho.2 with ⟨h1, _⟩ | ⟨g', cap, cur, h1, _, hgb, hnc, hcm, hcs, htake⟩
  · cases h1
  cases h1
  have hgblk : L.blk r = some gb := hblk.symm
  have hno : ¬ okOf C s L gb := fun hx => hx.2 r _ hr rfl (.inl hgblk)
  have hul2 : uss.length = n := by rw [hal.1, hlR]
  have hfl : uss.flatten.length = n * k := by rw [flatten_length _ hul, hul2]
  let enc : Nat → List Value := at_ uss n
  let tr : Nat → τ := at_ ys n
  have henc : ∀ x, (enc x).length = k := fun x => by
    obtain ⟨u, _, h2, h3⟩ := at_mem hul2 hn x
    show (at_ uss n x).length = k
    rw [h2]; exact hul u h3
  have h1c : ∀ x, ∀ v ∈ enc x, v.oneCell' = true := fun x v hv => by
    obtain ⟨u, _, h2, h3⟩ := at_mem hul2 hn x
    have : v ∈ u := by rw [← h2]; exact hv
    exact hone v (List.mem_flatten.2 ⟨u, h3, this⟩)
  have htr : ∀ x, tr x ∈ ys := fun x => by
    obtain ⟨u, _, h2, h3⟩ := at_mem hlen hn x
    show at_ ys n x ∈ ys
    rw [h2]; exact h3
  have hpair : ∀ x, Al (RepC C.P (okOf C s L) w s.used L) (enc x) (imL (av (tr x))) := fun x => by
    obtain ⟨u, hu1, hu2, _⟩ := at_mem hul2 hn x
    obtain ⟨t, ht1, ht2, _⟩ := at_mem hlen hn x
    show Al _ (at_ uss n x) (imL (av (at_ ys n x)))
    rw [hu2, ht2]
    exact hal.2 _ _ _ hu1 (by simp only [imR, List.getElem?_map, ht1, Option.map_some])
  have hO : Sort.SWO (fun x y : Nat => decide (cm (tr x) (tr y) < 0)) :=
    ⟨fun x => by simpa using hord.irrefl _ (htr x),
     fun x y z h1 h2 => by simp only [decide_eq_true_eq] at *; exact hord.trans _ (htr x) _ (htr y) _ (htr z) h1 h2,
     fun x y z h1 h2 => by simp only [decide_eq_false_iff_not] at *; exact hord.ntrans _ (htr x) _ (htr y) _ (htr z) h1 h2⟩
  have hsz : gb < w.heap.size := (Array.getElem?_eq_some_iff.1 hgb).1
  have hWheap : ∀ (m : Nat) (os : Array Go.Obj) (d : Array Nat) (b : Nat), b ≠ gb → b < w.heap.size → (sortW enc k w gb m d os).heap[b]? = w.heap[b]? := by
    intro m os d b hb1 hb2
    have e1 : (Sort.putRowK enc k (Sort.ahead w m) gb 0 d).heap.size = w.heap.size := by simp [Sort.putRowK]
    show ((Sort.putRowK enc k (Sort.ahead w m) gb 0 d).heap ++ os)[b]? = _
    rw [Array.getElem?_append_left (by rw [e1]; exact hb2), putRowK_other _ _ _ _ _ hb1]
    rfl
  have hcmp : ∀ (m : Nat) (os : Array Go.Obj) (d : Array Nat), d.size = n → ∀ x y : Nat, Calls C.P g (#[.agg (enc x).toArray, .agg (enc y).toArray] ++ cvs.toArray) (sortW enc k w gb m d os) fun e w' => e = .returned (.int .i64 (cm (tr x) (tr y))) ∧ ∃ q os', w' = Sort.grow ((sortW enc k w gb m d os).drewN q) os' := by
    intro m os d hd x y
    obtain ⟨hcall, hrun⟩ := hg _ (htr x) _ (htr y)
    have hrep : ∀ x, RepT C.P (fun b => okOf C s L b ∧ b < w.heap.size) (sortW enc k w gb m d os) U0 L0 (.agg (enc x).toArray) (.g (imL (av (tr x)))) := fun x => by
      refine ⟨enc x, rfl, ⟨(hpair x).1, fun i u c hu hc => ?_⟩⟩
      have h1 := (hpair x).2 i u c hu hc
      simp only [imL, List.getElem?_map, Option.map_eq_some_iff] at hc
      obtain ⟨z, _, rfl⟩ := hc
      exact RepA.move h1 fun b hb hlt => ⟨⟨hb, hlt⟩, hWheap m os d b (fun e => hno (e ▸ hb)) hlt⟩
    have hcr : Al (RepT C.P (fun b => okOf C s L b ∧ b < w.heap.size) (sortW enc k w gb m d os) U0 L0) cvs (caps.map fun c => .c (.im c)) := by
      refine ⟨by rw [List.length_map]; exact hcv.1, fun i u c hu hc => ?_⟩
      simp only [List.getElem?_map, Option.map_eq_some_iff] at hc
      obtain ⟨z, hz, rfl⟩ := hc
      exact RepA.move (hcv.2 i u z hu hz) fun b hb hlt => ⟨⟨hb, hlt⟩, hWheap m os d b (fun e => hno (e ▸ hb)) hlt⟩
    have := hrun (fun b => okOf C s L b ∧ b < w.heap.size) (sortW enc k w gb m d os) ([.agg (enc x).toArray, .agg (enc y).toArray] ++ cvs) (Al.cons (hrep x) (Al.cons (hrep y) hcr))
    rw [show ([.agg (enc x).toArray, .agg (enc y).toArray] ++ cvs : List Value).toArray = #[.agg (enc x).toArray, .agg (enc y).toArray] ++ cvs.toArray by simp] at this
    refine this.mono fun e1 w' ⟨v, h1, ⟨h2, h3⟩, h4⟩ => ?_
    have h4 : RepA C.P _ w' v (.flat (.int .i64 (cm (tr x) (tr y)))) := h4
    rw [RepA.flat_eq h4] at h1
    exact ⟨h1, world_grown h2 h3⟩
  have hcellF : ∀ (d : Array Nat) (t : Nat), d.size = n → t < n * k → (Sort.flatK enc k d)[t]! = (enc d[t / k]!)[t % k]! := fun d t hd ht => Sort.get_flatK enc k d t (by rw [hd]; exact ht)
  have hdiv : ∀ t, t < n * k → t / k < n := fun t ht => Nat.div_lt_of_lt_mul (by rw [Nat.mul_comm]; exact ht)
  have hH : Sort.HoldsK enc k w gb 0 (Array.range n) := by
    intro t ht
    rw [Sort.size_flatK, Array.size_range] at ht
    have hq := hdiv t ht
    have hm := Nat.mod_lt t hs0
    have hcur : cur[t]? = uss.flatten[t]? := by
      rw [← htake, List.getElem?_take, if_pos ht]; simp
    have hflat : uss.flatten[t]? = (enc (t / k))[t % k]? := by
      have := flatten_get uss hul (t / k) (t % k) hm
      rw [Nat.mul_comm, Nat.div_add_mod] at this
      rw [this, at_lt hul2 hq]; rfl
    have hsome : (enc (t / k))[t % k]? = some ((enc (t / k))[t % k]!) := by
      rw [getElem!_pos _ _ (by rw [henc]; exact hm)]; exact List.getElem?_eq_getElem _
    refine ⟨?_, ?_⟩
    · rw [hcellF _ _ (by simp) ht, range_get _ _ hq, Nat.zero_add]
      rw [World.cell?]
      simp only [hgb]
      rw [hcur, hflat, hsome]; rfl
    · simp [World.frozen?, hgb]
  have hn62 : n < 4611686018427387904 := by
    have : n ≤ n * bs := Nat.le_mul_of_pos_right _ hbs
    omega
  obtain ⟨fg, hfg1, hfg2, hfg3⟩ := (hg _ (htr 0) _ (htr 0)).1
  have eg : ∀ args w, (callFunc g args).run C.P w = .ok (.enter g args) w := by
    intro args w
    have h4 : fg.body.isNone = false := by cases hb : fg.body <;> simp_all
    have h5 : ¬ fg.name = "runtime.NumGoroutine" := by simpa using hfg3
    simp [callFunc, Sem.run_bind, hfg1, h5]
    intro hb
    rw [hb] at hfg2
    cases hfg2
  have hrun := hc.full enc (fun x y => cm (tr x) (tr y)) g cvs.toArray gb cap n w henc h1c hO eg hcmp hH hsz hn62
  refine hrun.mono fun e1 w' ⟨h1, d, m, os, hperm, hsorted, hw⟩ => ⟨h1, d.toList.map tr, ?_⟩
  obtain ⟨hds, hdp⟩ := perm_range hperm
  have hz1 : (d.toList.map tr).Perm ys := by
    have := hdp.map tr
    rw [show (List.range n).map tr = ys from map_at hlen] at this
    exact this
  have hz2 : (d.toList.map tr).Pairwise (fun a b => ¬ cm b a < 0) := by
    rw [List.pairwise_map, List.pairwise_iff_getElem]
    intro i j hi hj hij
    have hi' : i < n := by simpa [hds] using hi
    have hj' : j < n := by simpa [hds] using hj
    have h2 := hsorted i j (Nat.zero_le _) hij hj'
    simp only [decide_eq_false_iff_not] at h2
    rw [getElem!_pos d j (by omega), getElem!_pos d i (by omega)] at h2
    simpa using h2
  refine ⟨hz1, hz2, ?_⟩
  obtain ⟨zs, hzs⟩ : ∃ zs, d.toList.map tr = zs := ⟨_, rfl⟩
  rw [hzs]
  have hzl : zs.length = n := by rw [← hzs]; simp [hds]
  have hzR : (imR (zs.map av)).length = n := by simp [imR, hzl]
  -- the row turned
  have hL : Sim C (s.putO r (.row e (imR (zs.map av)))) a (Sort.putRowK enc k w gb 0 d) L := by
    refine h.write hr rfl rfl (.inl hgblk) rfl rfl ⟨rfl, Nat.le_refl _⟩ (by simp [Sort.putRowK]) (fun b hb => putRowK_other _ _ _ _ _ hb) fun hm => ?_
    have hul3 : ∀ u ∈ d.toList.map enc, u.length = k := fun u hu => by
      obtain ⟨x, _, rfl⟩ := List.mem_map.1 hu; exact henc x
    refine ⟨d.toList.map enc, k, bs, he, hs0, by rw [hzR]; exact hb, ?_, by rw [hv]; exact hblk, hul3, ?_, ?_⟩
    · rw [hzR, hv]
      refine ⟨by rw [flatten_length _ hul3]; simp [hds], .inr ⟨gb, cap, _, rfl, Nat.zero_le _, putRowK_heap enc k w gb d hgb, hnc, hcm, by simp [Sort.putCells, hcs], ?_⟩⟩
      apply List.ext_getElem?
      intro t
      rw [List.getElem?_take]
      by_cases ht : t < n * k
      · rw [if_pos ht]
        have hq := hdiv t ht
        have hm2 := Nat.mod_lt t hs0
        have hfl2 : ((d.toList.map enc).flatten)[t]? = (enc d[t / k]!)[t % k]? := by
          have := flatten_get _ hul3 (t / k) (t % k) hm2
          rw [Nat.mul_comm, Nat.div_add_mod] at this
          rw [this, List.getElem?_map, Array.getElem?_toList, Array.getElem?_eq_getElem (by omega), getElem!_pos d _ (by omega)]
          rfl
        have hct : t < cur.size := by
          have : n * k ≤ cap * k := Nat.mul_le_mul_right _ hnc
          omega
        rw [hfl2, Array.getElem?_toList]
        simp only [Sort.putCells, Array.getElem?_mapIdx, Array.getElem?_eq_getElem hct, Option.map_some]
        rw [if_pos ⟨Nat.zero_le _, by rw [Sort.size_flatK, hds]; omega⟩, Nat.sub_zero, hcellF d t hds ht]
        rw [getElem!_pos _ _ (by rw [henc]; exact hm2)]
        exact (List.getElem?_eq_getElem _).symm
      · rw [if_neg ht, List.getElem?_eq_none (by rw [flatten_length _ hul3]; simp [hds]; omega)]
    · refine ⟨by simp [imR, hzl, hds], fun i u t hu ht => ?_⟩
      rw [← hzs] at ht
      simp only [imR, List.getElem?_map, Option.map_eq_some_iff] at hu ht
      obtain ⟨x, hx, rfl⟩ := hu
      obtain ⟨t', ⟨t2, ⟨x', hx', rfl⟩, rfl⟩, rfl⟩ := ht
      rw [hx] at hx'
      cases hx'
      exact (hpair x).imp fun _ _ hcc => hcc.move hm (fun _ h => h) (Where.upto_refl _ _)
    · intro v hv
      obtain ⟨u, hu, hvu⟩ := List.mem_flatten.1 hv
      obtain ⟨x, _, rfl⟩ := List.mem_map.1 hu
      exact h1c x v hvu
  refine ⟨L, ?_⟩
  have h2 := hL.draw (w.drawn + m) (Nat.le_add_right _ _)
  rw [hw]
  refine Sim.below (w := Sort.putRowK enc k (Sort.ahead w m) gb 0 d) h2 ⟨⟨rfl, rfl, rfl, by simp [sortW, Sort.grow], fun b hb => ?_⟩, Nat.le_refl _⟩
  show (_ ++ os)[b]? = _
  rw [Array.getElem?_append_left hb]

theorem OpE.sortD {τ : Type} [Inhabited τ] (av : τ → List AV) {o : Oper} {K : St → Prop} {y a1 a2 : Operand} {ts : Array TypeId} {f g r e k bs : Nat} {ys : List τ} {cm : τ → τ → Int} {caps : List AV} (ho : o.op = .call { callee := .value y, args := #[a1, a2], argTypes := ts }) (hy : fnOf (s.ev y) = some (f, [])) (h1 : s.ev a1 = .c (.ref r)) (hr : s.ob r = some (.row e (imR (ys.map av)))) (h2 : s.ev a2 = .c (.im (.fn g caps)))
    (he : EInfo C.P e = some (k, bs)) (hbs : 0 < bs) (hc : SortD C.P f k) (hg : ∀ x ∈ ys, ∀ y ∈ ys, PCall C.P g ([.g (imL (av x)), .g (imL (av y))] ++ caps.map fun c => .c (.im c)) (ft (.int .i64 (cm x y)))) (hord : OrdOn cm ys) (hd : dstOk o.dst s.nt = true)
    (h : ∀ zs : List τ, zs.Perm ys → zs.Pairwise (fun a b => ¬ cm b a < 0) → K ((s.putO r (.row e (imR (zs.map av)))).put o.dst (.t []))) : OpE C o s K := by
  intro a w ⟨L, hs⟩ next Q hnext
  have hfn : a.eval y = .func (.func f) #[] #[] := fnOf_eval hs hy
  have hv1 := hs.ev a1
  rw [h1] at hv1
  obtain ⟨_, hv1, _⟩ := hv1
  have hv2 : RepA C.P (okOf C s L) w (a.eval a2) (.fn g caps) := by
    have := hs.ev a2
    rw [h2] at this
    exact this
  obtain ⟨cvs, hgn, hcv⟩ : ∃ cvs : List Value, a.eval a2 = .func (.func g) #[] cvs.toArray ∧ Al (RepA C.P (okOf C s L) w) cvs caps := by
    generalize a.eval a2 = v2 at hv2
    cases hv2 with
    | fn us hr =>
      refine ⟨(List.range caps.length).map us, rfl, by simp, fun i u c hu hc => ?_⟩
      rw [List.getElem?_map, Option.map_eq_some_iff] at hu
      obtain ⟨j, hj, rfl⟩ := hu
      obtain ⟨hjl, hje⟩ := List.getElem?_eq_some_iff.1 hj
      simp only [List.getElem_range] at hje
      subst hje
      exact hr _ c hc
  have hob := hs.ob r _ hr
  obtain ⟨_, uss, sz, bs', _, _, _, ho', hblk, _⟩ := hob
  refine OW.enter (run_call ho hfn hc.ok) ?_
  have e4 : ((#[a1, a2] : Array Operand).map a.eval ++ #[] : Array Value) = #[a.eval a1, a.eval a2] := by simp
  rw [e4, hv1, hgn]
  have hdst : ∀ i, o.dst = some i → i < s.nt := dstOk_spec hd
  by_cases h0 : ys = []
  · subst h0
    obtain ⟨ad, cap, hv, _⟩ := ownsRow_slice ho'
    rw [hv]
    refine (hc.nil0 ad cap _ w).mono fun e w' ⟨h3, h4⟩ => ?_
    subst h3; subst h4
    have hS : S C (s.putO r (.row _ (imR (([] : List τ).map av)))) a w' := S_eqv ⟨L, hs⟩ ⟨fun _ => rfl, fun j => by
      rw [St.ob_putO]; split
      · rename_i e; subst e; exact hr
      · rfl, fun _ => Iff.rfl, rfl⟩
    obtain ⟨L', hs'⟩ := hS
    exact ⟨_, rfl, hnext _ _ _ (h [] (List.Perm.refl _) List.Pairwise.nil) ⟨L', hs'.put o.dst hdst ⟨[], rfl, Al.nil⟩⟩⟩
  · have hpos : 0 < ys.length := List.length_pos_iff.2 h0
    rcases ho'.2 with ⟨_, h3⟩ | ⟨gb, cap, cur, hv, _⟩
    · simp [imR] at h3; exact absurd h3 h0
    · have hlR : (imR (ys.map av)).length = ys.length := by simp [imR]
      rw [hlR] at hv
      rw [hv]
      refine (hs.sortD av (cm := cm) hr hv hpos rfl he hbs hc hcv hg hord).mono fun e w' ⟨h3, zs, hz1, hz2, L', hs'⟩ => ?_
      subst h3
      exact ⟨_, rfl, hnext _ _ _ (h zs hz1 hz2) ⟨L', hs'.put o.dst hdst ⟨[], rfl, Al.nil⟩⟩⟩
/-! ### ghost moves inside a region -/
theorem OpE.fits {o : Oper} {s' : St} {K : St → Prop} (hf : Fits C s s') (h : OpE C o s' K) : OpE C o s K := fun a w hs next Q hn => h a w (hf a w hs) next Q hn
theorem RunE.fits {o : Oper} {l : List Oper} {s' : St} {K : St → Prop} (hf : Fits C s s') (h : RunE C (o :: l) s' K) : RunE C (o :: l) s K := ⟨h.1, OpE.fits hf h.2⟩
/-- A variable of frozen cells that nobody writes any more, told as frozen cells. -/
theorem Fits.seeP {s' : St} (i k : Nat) {t : TypeId} {cs : List Cell} {xs : List AV} (hi : s.tv i = .c (.ptr k 0)) (hk : s.ob k = some (.box t cs)) (hc : unimL cs = some xs) (h : Fits C { s.delO k with t := ins i (.c (.ip xs)) (s.delO k).t } s') : Fits C s s' := by
  intro a w ⟨L, hs⟩
  obtain ⟨hku, b, vs, hbl, hh, hal, hone⟩ := hs.ob k _ hk
  have hcs := unimL_spec hc
  subst hcs
  have hok : ∀ c, okOf C s L c → okOf C (s.delO k) L c := fun c hc => ⟨hc.1, fun j o1 hj ho1 => by
    rw [St.ob_delO] at hj
    split at hj
    · cases hj
    · exact hc.2 j o1 hj ho1⟩
  have hokb : okOf C (s.delO k) L b := by
    have hhas : L.has k b := .inl hbl
    refine ⟨fun hlt => (hs.own k _ b hk (Eq.refl _) hhas).2.elim (fun h => absurd hlt (Nat.not_lt.2 h)) .inr, fun j o1 hj ho1 he => ?_⟩
    rw [St.ob_delO] at hj
    split at hj
    · cases hj
    · rename_i e1
      exact e1 (hs.inj _ _ _ o1 b hk hj (Eq.refl _) ho1 hhas he)
  have hv := hs.tm i
  rw [hi] at hv
  obtain ⟨_, b', hbl', hv⟩ := hv
  obtain rfl : b = b' := Option.some.inj (hbl.symm.trans hbl')
  have hd := hs.del k
  refine h a w ⟨L, hd.os, hd.tape, hd.output, hd.size, hd.kept, hd.nt, fun j => ?_, hd.ob, hd.inj, hd.own, hd.defers, hd.pin⟩
  show RepT C.P (okOf C (s.delO k) L) w (s.delO k).used L _ ((lk (ins i (.c (.ip xs)) (s.delO k).t) j).getD (.c .dead))
  rw [lk_ins]
  by_cases e1 : i = j
  · subst e1
    rw [if_pos (Eq.refl _)]
    refine ⟨⟨b, 0, none⟩, vs, hv, fun j u hu => ?_, ⟨by simpa [imL] using hal.1, fun j u x hu hx => ?_⟩, fun _ => hokb⟩
    · rw [add_lit, cell_of_block hh, Nat.zero_add]
      simpa using hu
    · have := hal.2 j u (.im x) hu (by simp [imL, hx])
      exact RepA.mono this fun b hb _ => hok b hb
  · rw [if_neg e1]; exact hd.tm j
/-- A function value that has captured what a frozen pointer leads to. -/
theorem AX.makeFnP {o : Oper} {k f : Nat} {K : List Key → List Upd → Prop} {y : Operand} {xs : List AV} (ho : o.op = .makeFunc (.func f) #[] #[y]) (hy : s.ev y = .c (.ip xs)) (hd : dstOk o.dst s.nt = true)
    (h : K (opK y) (dU o.dst (.c (.im (.fn f [.pt xs]))))) : AX C k o s K := by
  refine ⟨_, _, fun s1 hag hnt hk => ?_, fun u hu j hj => (given_dU u hu j hj).elim, h⟩
  rw [ups_dU]
  intro a w ⟨L, hs⟩ next Q hnext
  have e1 : s1.ev y = s.ev y := agree_ev hag (by intro x hx; simp [hx])
  have hv := hs.ev y
  rw [e1, hy] at hv
  obtain ⟨ad, us, hv, hc, hal, hok⟩ := hv
  refine OW.value (v := .func (.func f) #[] #[a.eval y]) (w' := w) (by unfold execOp; simp [ho, Instr.makeFunc]) (hnext _ _ ⟨L, hs.put o.dst (by rw [hnt]; exact dstOk_spec hd) ?_⟩)
  show RepA C.P (okOf C s1 L) w _ _
  refine RepA.fn (cs := [.pt xs]) (fun _ => a.eval y) fun i z hz => ?_
  cases i with
  | succ i => simp at hz
  | zero =>
    simp at hz
    subst hz
    rw [hv]
    refine .pt (fun i => us.getD i undef) (fun i hi => ?_) hok (fun i y hy => ?_)
    · have : i < us.length := by rw [hal.1]; exact hi
      have h2 := hc i us[i] (List.getElem?_eq_getElem this)
      rw [h2]; simp [List.getD_eq_getElem?_getD, List.getElem?_eq_getElem this]
    · obtain ⟨v, hv, hr⟩ := hal.get_right hy
      simp only [List.getD_eq_getElem?_getD, hv, Option.getD_some]
      exact hr
end
end Go.Exe
namespace Go.Proofs.YtaaflhmfhnfjhaaGreat
open Go.RowKit Go.Exe
/-! ### CriticalShifts -/
abbrev off4 (a b c d : Int) : List Of := [(1, a), (2, b), (3, c), (4, d)]
/-- The times of a story's spans are small. -/
theorem at_small {s : Sto} {t : Tre} (h8 : t.cs.length ≤ 8) {x : Spn} (hx : x ∈ trcS s 0 t) (e : Bool) : -1000 < atS x e ∧ atS x e < 3000 := by
  obtain ⟨i, c, hi, rfl⟩ := trcS_mem hx
  have b := offC_b s (1 + c.cl % 4)
  have h1 := getD_le (stL_le h8) i
  have h2 := getD_le (enL_le h8) i
  have hby : -21 < byS s 0 i c ∧ byS s 0 i c < 521 := by unfold byS; split <;> omega
  cases e
  · show -1000 < (((stL t).getD i 0 : Nat) : Int) + byS s 0 i c ∧ (((stL t).getD i 0 : Nat) : Int) + byS s 0 i c < 3000
    omega
  · show -1000 < (((enL t).getD i 0 : Nat) : Int) + byS s 0 i c ∧ (((enL t).getD i 0 : Nat) : Int) + byS s 0 i c < 3000
    omega
theorem offI_4 (a b c d : Int) (k : Nat) (hk : k < 4) : offI (off4 a b c d) ((1 + k : Nat) : Int) = if k = 0 then a else if k = 1 then b else if k = 2 then c else d := by
  rcases k with _ | _ | _ | _ | k
  · simp [offI]
  · simp [offI]
  · simp [offI]
  · simp [offI]
  · omega
theorem tim4 {s : Sto} {t : Tre} (h8 : t.cs.length ≤ 8) {x : Spn} (hx : x ∈ trcS s 0 t) (e : Bool) {a b c d : Int} (ha : -100000 ≤ a ∧ a ≤ 100000) (hb : -100000 ≤ b ∧ b ≤ 100000) (hc : -100000 ≤ c ∧ c ≤ 100000) (hd : -100000 ≤ d ∧ d ≤ 100000) :
    timM (trcS s 0 t) (off4 a b c d) (evOf x e) = atS x e - offI (off4 a b c d) x.clk := by
  rw [timM_is _ (nodup_sorted (trcS_sorted s 0 t)) hx e]
  have h1 := at_small h8 hx e
  obtain ⟨i, y, hi, rfl⟩ := trcS_mem hx
  have h4 : y.cl % 4 < 4 := Nat.mod_lt _ (by omega)
  have h5 := offI_4 a b c d (y.cl % 4) h4
  have h6 : (spnS s 0 t i y).clk = ((1 + y.cl % 4 : Nat) : Int) := rfl
  rw [h6, h5]
  exact w64 (by split <;> (try split) <;> (try split) <;> omega) (by split <;> (try split) <;> (try split) <;> omega)
/-- What 'turned' answers, for every turn of one story. -/
theorem turned_all (s : Sto) (hsB : s.okB) : (∀ u, u < 256 → PCall Tryz.prog 12 [stoT s, ft (.int .u8 (u : Nat))] (turnR none)) ∨
    ∃ t, s.ok ∧ turnT s = some t ∧ ∀ u, u < 256 → PCall Tryz.prog 12 [stoT s, ft (.int .u8 (u : Nat))] (turnR (some (rotL (trcS s 0 t) u, offT s 4))) := by
  cases hsh : shortS s with
  | false => exact .inl fun u _ => turned_c0 s hsh u
  | true =>
    have hs := hsB.ok hsh
    have c := fun u hu => turned_c s hs u hu
    unfold turnF at c
    cases ht : turnT s with
    | none => rw [ht] at c; exact .inl c
    | some t => rw [ht] at c; exact .inr ⟨t, hs, rfl, c⟩
attribute [local irreducible] W AX Run RunD AStep AOp AOpX AStB AStH AStG Fits PCall GCall PostG Post Stop
end Go.Proofs.YtaaflhmfhnfjhaaGreat
namespace Go.Proofs.YtaaflhmfhnfjhaaGreat
open Go.RowKit Go.Exe
/-! ### CriticalTimes -/
theorem ordN_false {v : List Of} : ∀ {m : Nat}, ordN v m = false → ∀ n, 0 < n → n < m → leAt v n = false
  | 0, _, n, _, h => by omega
  | m + 1, h, n, h0, hn => by
    simp only [ordN, Bool.or_eq_false_iff, Bool.and_eq_false_iff] at h
    by_cases e : n = m
    · subst e
      rcases h.2 with h2 | h2
      · simp at h2; omega
      · exact h2
    · exact ordN_false h.1 n h0 (by omega)
theorem chk_ord {l : List Spn} {v : List Of} (h : chkE l v = 0) : ordN v v.length = false := by
  unfold chkE at h
  cases ho : ordN v v.length with
  | false => rfl
  | true => rw [ho] at h; simp at h
theorem chk_nd {l : List Spn} {v : List Of} (h : chkE l v = 0) : (v.map (·.1)).Nodup := by
  have ho := ordN_false (chk_ord h)
  have key : ∀ j (hj : j < v.length) i (hi : i < j), v[i].1 < v[j].1 := by
    intro j
    induction j with
    | zero => intro _ i hi; omega
    | succ j ih =>
      intro hj i hi
      have h1 := ho (j + 1) (by omega) hj
      unfold leAt at h1
      rw [List.getElem?_eq_getElem hj, show j + 1 - 1 = j by omega, List.getElem?_eq_getElem (by omega : j < v.length)] at h1
      have h2 := of_decide_eq_false h1
      by_cases e : i = j
      · subst e; omega
      · have := ih (by omega) i (by omega); omega
  rw [List.Nodup, List.pairwise_map, List.pairwise_iff_getElem]
  intro i j hi hj hij e
  have := key j hj i hij
  omega
theorem Trn.timE {l L : List Spn} {tr : Int} (h : Trn l L tr) {v : List Of} (hc : chkE l v = 0) (x : Ev) : timE l v x = if x.tr = tr then (if atI l x.id < 0 then none else some (timM l v x)) else none := by
  unfold Go.Proofs.YtaaflhmfhnfjhaaGreat.timE spOfR
  by_cases e : x.tr = tr
  · rw [if_pos e]
    have e1 : l.find? (fun s => s.tr == x.tr && s.id == x.id) = l.find? (fun s => s.id == x.id) := by
      have : ∀ m : List Spn, (∀ s ∈ m, s.tr = tr) → m.find? (fun s => s.tr == x.tr && s.id == x.id) = m.find? (fun s => s.id == x.id) := by
        intro m
        induction m with
        | nil => intro _; rfl
        | cons y m ih =>
          intro hm
          have h1 : (y.tr == x.tr) = true := by rw [beq_iff_eq, e]; exact hm y (by simp)
          rw [List.find?_cons, List.find?_cons, h1, Bool.true_and, ih fun s hs => hm s (by simp [hs])]
      exact this l h.trl
    simp only
    rw [e1]
    cases hf : l.findIdx? (fun s => s.id == x.id) with
    | none =>
      have h1 : l.find? (fun s => s.id == x.id) = none := by
        rw [List.find?_eq_none]
        rw [List.findIdx?_eq_none_iff] at hf
        exact fun y hy => by simpa using hf y hy
      have h2 : atI l x.id = -1 := by simp [atI, hf]
      rw [h1, h2, if_pos (by omega)]; rfl
    | some i =>
      obtain ⟨h4, h5, _⟩ := List.findIdx?_eq_some_iff_getElem.1 hf
      have hk := List.getElem?_eq_getElem h4
      have h2 : atI l x.id = (i : Nat) := by simp [atI, hf]
      have h3 : timM l v x = IntKind.i64.wrap (atS l[i] x.en - offI v l[i].clk) := by simp only [timM, hf, hk]
      rw [h2, if_neg (by omega), h3]
      cases hs : l.find? (fun s => s.id == x.id) with
      | none =>
        rw [List.find?_eq_none] at hs
        exact absurd h5 (hs _ (List.getElem_mem h4))
      | some s =>
        have h6 := List.find?_some hs
        have h7 := List.mem_of_find?_eq_some hs
        have he := id_eq h.ndl h7 (List.getElem_mem h4) (by
          have a1 : s.id = x.id := by simpa using h6
          have a2 : l[i].id = x.id := by simpa using h5
          rw [a1, a2])
        rw [he, Option.map_some, off_eq (chk_nd hc)]
  · rw [if_neg e]
    have : l.find? (fun s => s.tr == x.tr && s.id == x.id) = none := by
      rw [List.find?_eq_none]
      intro s hs
      have := h.trl s hs
      have : ¬ s.tr = x.tr := fun e2 => e (by rw [← e2, this])
      simp [this]
    simp only
    rw [this]; rfl
attribute [local irreducible] W AX Run RunD AStep AOp AOpX AStB AStH AStG Fits PCall GCall PostG Post Stop
end Go.Proofs.YtaaflhmfhnfjhaaGreat
namespace Go.Proofs.YtaaflhmfhnfjhaaGreat
open Go.RowKit Go.Exe
/-! ### CriticalLengths -/
def badE (l : List Spn) (tr : Int) (x : Ev) : Bool := decide (atI l x.id < 0) || (x.tr != tr)
def badG (l : List Spn) (tr : Int) (g : Sg) : Bool := badE l tr g.fr || badE l tr g.to
def lenM (l : List Spn) (v : List Of) (g : Sg) : Int := IntKind.i64.wrap (timM l v g.to - timM l v g.fr)
theorem Trn.timE2 {l L : List Spn} {tr : Int} (h : Trn l L tr) {v : List Of} (hc : chkE l v = 0) (x : Ev) : Go.Proofs.YtaaflhmfhnfjhaaGreat.timE l v x = if badE l tr x then none else some (timM l v x) := by
  rw [h.timE hc]
  unfold badE
  by_cases h1 : x.tr = tr
  · by_cases h2 : atI l x.id < 0
    · simp [h1, h2]
    · simp [h1, h2]
  · simp [h1]
theorem Trn.lenS {l L : List Spn} {tr : Int} (h : Trn l L tr) {v : List Of} (hc : chkE l v = 0) : ∀ p : List Sg, Go.Proofs.YtaaflhmfhnfjhaaGreat.lenS l v p = if p.any (badG l tr) then none else some (p.map (lenM l v))
  | [] => rfl
  | g :: p => by
    simp only [Go.Proofs.YtaaflhmfhnfjhaaGreat.lenS, h.timE2 hc, Trn.lenS h hc p, List.any_cons, List.map_cons, badG]
    cases badE l tr g.fr with
    | true => simp
    | false =>
      cases badE l tr g.to with
      | true => simp
      | false =>
        simp only [Bool.false_eq_true, if_false, Bool.or_false, Bool.false_or]
        by_cases hp : p.any (fun g => badE l tr g.fr || badE l tr g.to) = true
        · have : p.any (badG l tr) = true := hp
          simp [this]
        · have : p.any (badG l tr) = false := by rw [Bool.not_eq_true] at hp; exact hp
          simp [this, lenM]
theorem chk_nil {l : List Spn} (h : 0 < l.length) : chkE l [] = 34 := by
  cases l with
  | nil => simp at h
  | cons s l =>
    unfold chkE
    have : (s :: l).any (gapB []) = true := by simp [gapB, offM, getO]
    rw [this]; rfl
attribute [local irreducible] W AX Run RunD AStep AOp AOpX AStB AStH AStG Fits PCall GCall PostG Post Stop
end Go.Proofs.YtaaflhmfhnfjhaaGreat
namespace Go.Proofs.YtaaflhmfhnfjhaaGreat
open Go.RowKit Go.Exe
/-! ### the law of the walk: its segments tile the time, and where one is, no blocking child runs -/
def TilQ (tm : Ev → Int) : List Sg → Ev → Ev → Prop
  | [], lo, cur => lo = cur
  | g :: q, lo, cur => g.to = cur ∧ tm g.fr < tm cur ∧ TilQ tm q lo g.fr
theorem TilQ.app {tm : Ev → Int} : ∀ {q1 q2 : List Sg} {lo m cur : Ev}, TilQ tm q1 m cur → TilQ tm q2 lo m → TilQ tm (q1 ++ q2) lo cur
  | [], _, _, _, _, h1, h2 => by cases h1; exact h2
  | g :: q, _, _, _, _, h1, h2 => ⟨h1.1, h1.2.1, TilQ.app h1.2.2 h2⟩
/-- From a span up to another one. -/
inductive Dsc (L : List Spn) (s : Spn) : Spn → Prop
  | refl : Dsc L s s
  | step {x y : Spn} : Dsc L s y → x ∈ L → x.pa = y.id → Dsc L s x
theorem Dsc.trans {L : List Spn} {s c x : Spn} (h : Dsc L c x) (hc : Dsc L s c) : Dsc L s x := by
  induction h with
  | refl => exact hc
  | step _ h2 h3 ih => exact .step ih h2 h3
section
variable {tm : Ev → Int} {bf : Ev → Ev → Bool} (hbf : ∀ x y, bf x y = decide (tm x < tm y))
include hbf
/-- What is true of a segment: whose it is, that it lies in its time, and that no child of it runs meanwhile. -/
structure SegOk (L : List Spn) (kid : Int → List Spn) (tm : Ev → Int) (s : Spn) (g : Sg) (x : Spn) : Prop where
  mem : x ∈ L
  sp : g.sp = (x.tr, x.id)
  dsc : Dsc L s x
  fr : tm (evOf x false) ≤ tm g.fr
  to : tm g.to ≤ tm (evOf x true)
  lt : tm g.fr < tm g.to
  free : ∀ k ∈ kid x.id, ¬ (tm (evOf k false) < tm g.to ∧ tm g.fr < tm (evOf k true) ∧ tm (evOf k false) < tm (evOf k true))
end
end Go.Proofs.YtaaflhmfhnfjhaaGreat
namespace Go.Proofs.YtaaflhmfhnfjhaaGreat
open Go.RowKit Go.Exe
/-! ### the path of a story's span -/
def TilP (tm : Ev → Int) : List Sg → Ev → Ev → Prop
  | [], lo, cur => lo = cur
  | g :: p, lo, cur => g.fr = lo ∧ tm g.fr < tm g.to ∧ TilP tm p g.to cur
theorem TilP.snoc {tm : Ev → Int} : ∀ {p : List Sg} {g : Sg} {lo cur : Ev}, TilP tm p lo g.fr → g.to = cur → tm g.fr < tm cur → TilP tm (p ++ [g]) lo cur
  | [], g, lo, cur, h, h2, h3 => by cases h; exact ⟨rfl, by rw [h2]; exact h3, h2⟩
  | _ :: _, _, _, _, h, h2, h3 => ⟨h.1, h.2.1, TilP.snoc h.2.2 h2 h3⟩
theorem TilQ.rev {tm : Ev → Int} : ∀ {q : List Sg} {lo cur : Ev}, TilQ tm q lo cur → TilP tm q.reverse lo cur
  | [], _, _, h => h
  | g :: q, lo, cur, h => by
    rw [List.reverse_cons]
    exact (TilQ.rev h.2.2).snoc h.1 h.2.1
structure PthIs (L : List Spn) (v : List Of) (r : Spn) (p : List Sg) : Prop where
  til : timM L v (evOf r false) < timM L v (evOf r true) → TilP (timM L v) p (evOf r false) (evOf r true)
  nil : ¬ timM L v (evOf r false) < timM L v (evOf r true) → p = []
  seg : ∀ g ∈ p, ∃ x, SegOk L (kidL L) (timM L v) r g x
  ev : ∀ g ∈ p, g.fr ∈ evsL L ∧ g.to ∈ evsL L
/-- The times of a story are small. -/
theorem tim_small {s : Sto} {t : Tre} (h8 : t.cs.length ≤ 8) {x : Ev} (hx : x ∈ evsL (trcS s 0 t)) : -2000 < timM (trcS s 0 t) (offT s 4) x ∧ timM (trcS s 0 t) (offT s 4) x < 4000 := by
  have b1 := offC_b s 1
  have b2 := offC_b s 2
  have b3 := offC_b s 3
  have b4 := offC_b s 4
  obtain ⟨z, hz, hx⟩ := List.mem_flatMap.1 hx
  have key : ∀ e, -2000 < timM (trcS s 0 t) (offT s 4) (evOf z e) ∧ timM (trcS s 0 t) (offT s 4) (evOf z e) < 4000 := fun e => by
    rw [show offT s 4 = off4 (offC s 1) (offC s 2) (offC s 3) (offC s 4) from offT_4 s]
    rw [tim4 h8 hz e (by omega) (by omega) (by omega) (by omega)]
    have h1 := at_small h8 hz e
    obtain ⟨i, y, hi, rfl⟩ := trcS_mem hz
    have h4 : y.cl % 4 < 4 := Nat.mod_lt _ (by omega)
    have h5 := offI_4 (offC s 1) (offC s 2) (offC s 3) (offC s 4) (y.cl % 4) h4
    have h7 : (spnS s 0 t i y).clk = ((1 + y.cl % 4 : Nat) : Int) := rfl
    rw [h7, h5]
    split
    · omega
    · split
      · omega
      · split <;> omega
  simp only [List.mem_cons, List.not_mem_nil, or_false] at hx
  rcases hx with rfl | rfl
  · exact key false
  · exact key true
theorem tim_is {s : Sto} {t : Tre} (h8 : t.cs.length ≤ 8) {z : Spn} (hz : z ∈ trcS s 0 t) (e : Bool) : ∃ k : Nat, 1 ≤ k ∧ k ≤ 4 ∧ z.clk = ((k : Nat) : Int) ∧ timM (trcS s 0 t) (offT s 4) (evOf z e) = atS z e - offC s k := by
  have b1 := offC_b s 1
  have b2 := offC_b s 2
  have b3 := offC_b s 3
  have b4 := offC_b s 4
  rw [show offT s 4 = off4 (offC s 1) (offC s 2) (offC s 3) (offC s 4) from offT_4 s]
  rw [tim4 h8 hz e (by omega) (by omega) (by omega) (by omega)]
  obtain ⟨i, y, hi, rfl⟩ := trcS_mem hz
  have h4 : y.cl % 4 < 4 := Nat.mod_lt _ (by omega)
  have h5 := offI_4 (offC s 1) (offC s 2) (offC s 3) (offC s 4) (y.cl % 4) h4
  have h7 : (spnS s 0 t i y).clk = ((1 + y.cl % 4 : Nat) : Int) := rfl
  refine ⟨1 + y.cl % 4, by omega, by omega, h7, ?_⟩
  rw [h7, h5]
  generalize y.cl % 4 = k at *
  rcases k with _ | _ | _ | _ | k
  · rfl
  · rfl
  · rfl
  · rfl
  · omega
theorem getD_set_max (L : List Nat) (p i v : Nat) : (L.getD i 0) ≤ (L.set p (max (L.getD p 0) v)).getD i 0 := by
  simp only [List.getD_eq_getElem?_getD, List.getElem?_set]
  by_cases h : p = i
  · subst h
    by_cases hp : p < L.length
    · simp [hp]; omega
    · simp [hp, List.getElem?_eq_none (by omega : L.length ≤ p)]
  · simp [h]
theorem enG_ge (t : Tre) : ∀ (n : Nat) (L : List Nat) (i : Nat), L.getD i 0 ≤ (enG t n L).getD i 0
  | 0, L, i => by simp [enG]
  | n + 1, L, i => by
    rw [enG]
    refine Nat.le_trans ?_ (enG_ge t n _ i)
    unfold stepE
    split
    · exact getD_set_max _ _ _ _
    · exact Nat.le_refl _
theorem st_le_en (t : Tre) (i : Nat) (hi : i < t.cs.length) : (stL t).getD i 0 ≤ (enL t).getD i 0 := by
  have key : ∀ n, n ≤ t.cs.length → ∀ i, i < n → (stF t n).getD i 0 ≤ (enF t n).getD i 0 := by
    intro n
    induction n with
    | zero => intro _ i h; omega
    | succ n ih =>
      intro hn i hin
      have hc := List.getElem?_eq_getElem (by omega : n < t.cs.length)
      rw [stF_at hc, enF_at hc]
      have l1 := stF_len t n (by omega)
      have l2 := enF_len t n (by omega)
      simp only [List.getD_eq_getElem?_getD] at ih ⊢
      by_cases h : i < n
      · rw [List.getElem?_append_left (by omega), List.getElem?_append_left (by omega)]
        exact ih (by omega) i h
      · obtain rfl : i = n := by omega
        rw [List.getElem?_append_right (by omega), List.getElem?_append_right (by omega), l1, l2, Nat.sub_self]
        simp
  exact Nat.le_trans (key _ (Nat.le_refl _) i hi) (enG_ge t _ _ i)
theorem story_st_en {s : Sto} {t : Tre} {z : Spn} (hz : z ∈ trcS s 0 t) : z.st ≤ z.en := by
  obtain ⟨i, c, hi, rfl⟩ := trcS_mem hz
  have h := st_le_en t i (List.getElem?_eq_some_iff.1 hi).1
  show (((stL t).getD i 0 : Nat) : Int) + byS s 0 i c ≤ (((enL t).getD i 0 : Nat) : Int) + byS s 0 i c
  omega
/-! ### below -/
theorem Dsc.mem {L : List Spn} {s x : Spn} (h : Dsc L s x) (hs : s ∈ L) : x ∈ L := by
  cases h with
  | refl => exact hs
  | step _ h2 _ => exact h2
attribute [local irreducible] W AX Run RunD AStep AOp AOpX AStB AStH AStG Fits PCall GCall PostG Post Stop
end Go.Proofs.YtaaflhmfhnfjhaaGreat
namespace Go.Proofs.YtaaflhmfhnfjhaaGreat
open Go.RowKit Go.Exe
/-! ### CriticalTiles -/
theorem Trn.timLl {l L : List Spn} {tr : Int} (h : Trn l L tr) (v : List Of) {x : Ev} (hx : x ∈ evsL L) : timM l v x = timM L v x := by
  obtain ⟨s, hs, hx⟩ := List.mem_flatMap.1 hx
  have hsl := h.perm.mem_iff.1 hs
  have key : ∀ e, timM l v (evOf s e) = timM L v (evOf s e) := fun e => by rw [timM_is v h.ndl hsl e, timM_is v h.nd hs e]
  simp only [List.mem_cons, List.not_mem_nil, or_false] at hx
  rcases hx with rfl | rfl
  · exact key false
  · exact key true
theorem Trn.badE {l L : List Spn} {tr : Int} (h : Trn l L tr) {x : Ev} (hx : x ∈ evsL L) : Go.Proofs.YtaaflhmfhnfjhaaGreat.badE l tr x = false := by
  obtain ⟨s, hs, hx⟩ := List.mem_flatMap.1 hx
  have hsl := h.perm.mem_iff.1 hs
  have key : ∀ e, Go.Proofs.YtaaflhmfhnfjhaaGreat.badE l tr (evOf s e) = false := fun e => by
    unfold Go.Proofs.YtaaflhmfhnfjhaaGreat.badE
    have h1 : ¬ atI l s.id < 0 := by
      unfold atI
      cases hf : l.findIdx? (fun x => x.id == s.id) with
      | none =>
        rw [List.findIdx?_eq_none_iff] at hf
        have := hf s hsl
        simp at this
      | some i => simp
    have h2 : s.tr = tr := h.tr s hs
    simp [evOf, h1, h2]
  simp only [List.mem_cons, List.not_mem_nil, or_false] at hx
  rcases hx with rfl | rfl
  · exact key false
  · exact key true
/-- What Lengths answers for a path of the trace. -/
theorem Trn.c24 {l L : List Spn} {tr : Int} (h : Trn l L tr) {v : List Of} (hc : chkE l v = 0) (hv : ∀ y ∈ v, I64 y.1) {p : List Sg} (hp : ∀ g ∈ p, g.fr ∈ evsL L ∧ g.to ∈ evsL L) : PCall Tryz.prog 24 [spsT l, ofsT v, sgsT p] (.t [(false, [.im (.sl 3 ((p.map (lenM L v)).map iA))]), (false, [fl (.int .i64 0)])]) := by
  have c := lengths_c l v p (fun s hs => (h.intl s hs).2.2.2) hv
  have hb : p.any (badG l tr) = false := by
    rw [List.any_eq_false]
    intro g hg
    unfold badG
    rw [h.badE (hp g hg).1, h.badE (hp g hg).2]; simp
  unfold lenT at c
  rw [if_neg (by rw [hc]; simp), h.lenS hc, hb] at c
  simp only [Bool.false_eq_true, if_false] at c
  have e : p.map (lenM l v) = p.map (lenM L v) := List.map_congr_left fun g hg => by
    unfold lenM; rw [h.timLl v (hp g hg).1, h.timLl v (hp g hg).2]
  rw [e] at c
  exact c
attribute [local irreducible] W AX Run RunD AStep AOp AOpX AStB AStH AStG Fits PCall GCall PostG Post Stop
end Go.Proofs.YtaaflhmfhnfjhaaGreat
namespace Go.Proofs.YtaaflhmfhnfjhaaGreat
open Go.RowKit Go.Exe
/-! ### counting the ints of a span of time -/
def cntZ (P : Int → Bool) (a : Int) (n : Nat) : Nat := (List.range n).countP fun j => P (a + (j : Nat))
theorem cntZ_succ (P : Int → Bool) (a : Int) (n : Nat) : cntZ P a (n + 1) = cntZ P a n + (if P (a + (n : Nat)) then 1 else 0) := by
  simp [cntZ, List.range_succ, List.countP_append, List.countP_cons]
theorem cntZ_add (P : Int → Bool) (a : Int) (n : Nat) : ∀ m, cntZ P a (n + m) = cntZ P a n + cntZ P (a + (n : Nat)) m
  | 0 => by simp [cntZ]
  | m + 1 => by
    rw [← Nat.add_assoc, cntZ_succ, cntZ_succ, cntZ_add P a n m, show a + ((n + m : Nat) : Int) = a + (n : Nat) + (m : Nat) by omega]
    omega
theorem cntZ_le (P Q : Int → Bool) (a : Int) : ∀ n : Nat, (∀ j : Nat, j < n → P (a + (j : Nat)) = true → Q (a + (j : Nat)) = true) → cntZ P a n ≤ cntZ Q a n
  | 0, _ => by simp [cntZ]
  | n + 1, h => by
    have ih := cntZ_le P Q a n fun j hj => h j (by omega)
    rw [cntZ_succ, cntZ_succ]
    have h1 := h n (by omega)
    cases hp : P (a + (n : Nat)) with
    | false => simp; omega
    | true => rw [h1 hp]; simp; omega
theorem cntZ_all (P : Int → Bool) (a : Int) : ∀ n : Nat, (∀ j : Nat, j < n → P (a + (j : Nat)) = true) → cntZ P a n = n
  | 0, _ => by simp [cntZ]
  | n + 1, h => by rw [cntZ_succ, cntZ_all P a n fun j hj => h j (by omega), h n (by omega)]; simp
theorem cntZ_none (P : Int → Bool) (a : Int) : ∀ n : Nat, (∀ j : Nat, j < n → P (a + (j : Nat)) = false) → cntZ P a n = 0
  | 0, _ => by simp [cntZ]
  | n + 1, h => by rw [cntZ_succ, cntZ_none P a n fun j hj => h j (by omega), h n (by omega)]; simp
/-- The ints from a to b of which P is true. -/
def cntI2 (P : Int → Bool) (a b : Int) : Nat := cntZ P a (b - a).toNat
theorem cntI2_add (P : Int → Bool) {a b c : Int} (h1 : a ≤ b) (h2 : b ≤ c) : cntI2 P a c = cntI2 P a b + cntI2 P b c := by
  unfold cntI2
  rw [show (c - a).toNat = (b - a).toNat + (c - b).toNat by omega, cntZ_add, show a + ((b - a).toNat : Int) = b by omega]
theorem cntI2_in {P Q : Int → Bool} {a b s e : Int} (hab : a ≤ b) (hse : s ≤ e) (h : ∀ τ, P τ = true → (s ≤ τ ∧ τ < e) ∧ Q τ = true) : cntI2 P a b ≤ cntI2 Q s e := by
  have hA : ∀ x y : Int, (∀ τ, x ≤ τ → τ < y → P τ = false) → cntI2 P x y = 0 := fun x y hx => cntZ_none P x _ fun j hj => hx _ (by omega) (by omega)
  have h1 : cntI2 P a b ≤ cntI2 P (min a s) (max b e) := by
    rw [cntI2_add P (show min a s ≤ a by omega) (show a ≤ max b e by omega), cntI2_add P hab (show b ≤ max b e by omega)]
    omega
  have h2 : cntI2 P (min a s) (max b e) = cntI2 P s e := by
    rw [cntI2_add P (show min a s ≤ s by omega) (show s ≤ max b e by omega), cntI2_add P hse (show e ≤ max b e by omega)]
    rw [hA (min a s) s fun τ _ h2 => by
        rw [Bool.eq_false_iff]; intro h3; have := (h τ h3).1; omega]
    rw [hA e (max b e) fun τ h1 _ => by
        rw [Bool.eq_false_iff]; intro h3; have := (h τ h3).1; omega]
    omega
  have h3 : cntI2 P s e ≤ cntI2 Q s e := cntZ_le P Q s _ fun j _ hp => (h _ hp).2
  omega
/-! ### what a span has of a path -/
def rS (tm : Ev → Int) (id : Int) : List Sg → Int
  | [] => 0
  | g :: p => (if g.sp.2 = id then tm g.to - tm g.fr else 0) + rS tm id p
theorem TilP.le {tm : Ev → Int} : ∀ {p : List Sg} {lo cur : Ev}, TilP tm p lo cur → tm lo ≤ tm cur
  | [], _, _, h => by cases h; exact Int.le_refl _
  | g :: p, lo, cur, h => by
    have := TilP.le h.2.2
    have h1 := h.2.1
    rw [← h.1]
    omega
theorem rS_b {tm : Ev → Int} {id : Int} : ∀ {p : List Sg} {lo cur : Ev}, TilP tm p lo cur → 0 ≤ rS tm id p ∧ rS tm id p ≤ tm cur - tm lo
  | [], lo, cur, h => by cases h; simp [rS]
  | g :: p, lo, cur, h => by
    obtain ⟨h1, h2⟩ := rS_b (id := id) h.2.2
    have h3 := h.2.1
    have h4 : tm g.fr = tm lo := by rw [h.1]
    simp only [rS]
    split <;> omega
theorem rS_pos {tm : Ev → Int} {id : Int} : ∀ {p : List Sg} {lo cur : Ev}, TilP tm p lo cur → (rS tm id p ≠ 0 ↔ (p.any fun g => decide (g.sp.2 = id)) = true)
  | [], lo, cur, h => by simp [rS]
  | g :: p, lo, cur, h => by
    have h1 := rS_b (id := id) h.2.2
    have h2 := rS_pos (id := id) h.2.2
    have h3 := h.2.1
    simp only [rS, List.any_cons, Bool.or_eq_true, decide_eq_true_eq]
    by_cases e : g.sp.2 = id
    · rw [if_pos e]
      exact ⟨fun _ => .inl e, fun _ => by omega⟩
    · rw [if_neg e, Int.zero_add]
      constructor
      · intro h4; exact .inr (h2.1 h4)
      · intro h4
        rcases h4 with h4 | h4
        · exact absurd h4 e
        · exact h2.2 h4
theorem rS_cnt {tm : Ev → Int} {id : Int} {P : Int → Bool} : ∀ {p : List Sg} {lo cur : Ev}, TilP tm p lo cur → (∀ g ∈ p, g.sp.2 = id → ∀ τ, tm g.fr ≤ τ → τ < tm g.to → P τ = true) → rS tm id p ≤ cntI2 P (tm lo) (tm cur)
  | [], lo, cur, h, _ => by simp [rS]
  | g :: p, lo, cur, h, hP => by
    have ih := rS_cnt (id := id) (P := P) h.2.2 fun g hg => hP g (by simp [hg])
    have h3 := h.2.1
    have h4 : tm g.fr = tm lo := by rw [h.1]
    have h5 := TilP.le h.2.2
    rw [cntI2_add P (show tm lo ≤ tm g.to by omega) h5]
    simp only [rS]
    by_cases e : g.sp.2 = id
    · rw [if_pos e]
      have : cntI2 P (tm lo) (tm g.to) = (tm g.to - tm lo).toNat := cntZ_all P _ _ fun j hj => hP g (by simp) e _ (by omega) (by omega)
      omega
    · rw [if_neg e]
      omega
def wS (tm : Ev → Int) (id : Int) (p : List Sg) (n : Int) : Int := p.foldl (fun n g => if g.sp.2 = id then IntKind.i64.wrap (IntKind.i64.wrap (n + tm g.to) - tm g.fr) else n) n
def eS (tm : Ev → Int) (id : Int) (p : List Sg) (n : Int) : Int := p.foldl (fun n g => if g.sp.2 = id then IntKind.i64.wrap (n + IntKind.i64.wrap (tm g.to - tm g.fr)) else n) n
theorem wS_is {tm : Ev → Int} {id : Int} : ∀ {p : List Sg} {lo cur : Ev} {n : Int}, TilP tm p lo cur → (∀ g ∈ p, (-10000 < tm g.fr ∧ tm g.fr < 10000) ∧ -10000 < tm g.to ∧ tm g.to < 10000) → 0 ≤ n → n + (tm cur - tm lo) ≤ 100000 → wS tm id p n = n + rS tm id p ∧ eS tm id p n = n + rS tm id p
  | [], _, _, n, _, _, _, _ => by simp [wS, eS, rS]
  | g :: p, lo, cur, n, h, hb, hn, hc => by
    have h3 := h.2.1
    have h4 : tm g.fr = tm lo := by rw [h.1]
    have h5 := TilP.le h.2.2
    obtain ⟨b1, b2⟩ := hb g (by simp)
    simp only [wS, eS, List.foldl_cons, rS]
    by_cases e : g.sp.2 = id
    · simp only [if_pos e]
      have w1 : IntKind.i64.wrap (n + tm g.to) = n + tm g.to := w64 (by omega) (by omega)
      have w2 : IntKind.i64.wrap (n + tm g.to - tm g.fr) = n + (tm g.to - tm g.fr) := by rw [w64 (by omega) (by omega)]; omega
      have w3 : IntKind.i64.wrap (tm g.to - tm g.fr) = tm g.to - tm g.fr := w64 (by omega) (by omega)
      have w4 : IntKind.i64.wrap (n + (tm g.to - tm g.fr)) = n + (tm g.to - tm g.fr) := w64 (by omega) (by omega)
      obtain ⟨i1, i2⟩ := wS_is (id := id) (n := n + (tm g.to - tm g.fr)) h.2.2 (fun g hg => hb g (by simp [hg])) (by omega) (by omega)
      unfold wS at i1
      unfold eS at i2
      rw [w1, w2, w3, w4, i1, i2]
      omega
    · simp only [if_neg e]
      obtain ⟨i1, i2⟩ := wS_is (id := id) (n := n) h.2.2 (fun g hg => hb g (by simp [hg])) hn (by omega)
      unfold wS at i1
      unfold eS at i2
      rw [i1, i2]
      omega
/-! ### the list that Exclusive answers -/
def exM (L : List Spn) (v : List Of) (m : List Of) (p : List Sg) : List Of := p.foldl (fun m g => putO m (g.sp.2, IntKind.i64.wrap ((getO m g.sp.2).getD 0 + lenM L v g))) m
theorem exN_is (L : List Spn) (v : List Of) (p : List Sg) : exN p (p.map (lenM L v)) p.length = exM L v [] p := by
  unfold exN exM
  have h : p.zip (p.map (lenM L v)) = p.map fun g => (g, lenM L v g) := by
    induction p with
    | nil => rfl
    | cons g p ih => simp [ih]
  rw [h, List.take_of_length_le (by simp), List.foldl_map]
theorem exM_get (L : List Spn) (v : List Of) (id : Int) : ∀ (p : List Sg) (m : List Of), getO (exM L v m p) id = if (p.any fun g => decide (g.sp.2 = id)) then some (eS (timM L v) id p ((getO m id).getD 0)) else getO m id
  | [], m => by simp [exM]
  | g :: p, m => by
    have ih := exM_get L v id p (putO m (g.sp.2, IntKind.i64.wrap ((getO m g.sp.2).getD 0 + lenM L v g)))
    have hstep : exM L v m (g :: p) = exM L v (putO m (g.sp.2, IntKind.i64.wrap ((getO m g.sp.2).getD 0 + lenM L v g))) p := rfl
    have heS : eS (timM L v) id (g :: p) ((getO m id).getD 0) = eS (timM L v) id p (if g.sp.2 = id then IntKind.i64.wrap ((getO m id).getD 0 + IntKind.i64.wrap (timM L v g.to - timM L v g.fr)) else (getO m id).getD 0) := rfl
    rw [hstep, ih, heS, getO_put, List.any_cons]
    by_cases e : g.sp.2 = id
    · simp only [e, if_true, Option.getD_some, decide_true, Bool.true_or]
      cases hp : (p.any fun g => decide (g.sp.2 = id)) with
      | true => simp [lenM]
      | false =>
        simp only [Bool.false_eq_true, if_false]
        have hz : ∀ n, eS (timM L v) id p n = n := by
          intro n
          have : ∀ (p : List Sg) n, (p.any fun g => decide (g.sp.2 = id)) = false → eS (timM L v) id p n = n := by
            intro p
            induction p with
            | nil => intro n _; rfl
            | cons y p ih =>
              intro n h
              simp only [List.any_cons, Bool.or_eq_false_iff, decide_eq_false_iff_not] at h
              show eS (timM L v) id p (if y.sp.2 = id then _ else n) = n
              rw [if_neg h.1]; exact ih n h.2
          exact this p n hp
        rw [hz]; rfl
    · simp only [e, if_false, decide_false, Bool.false_or]
theorem putO_keys (m : List Of) (x : Of) : ((m.map (·.1)).Nodup → ((putO m x).map (·.1)).Nodup) ∧ ∀ k, k ∈ (putO m x).map (·.1) ↔ k = x.1 ∨ k ∈ m.map (·.1) := by
  induction m with
  | nil => simp [putO]
  | cons y m ih =>
    simp only [putO]
    by_cases e : y.1 = x.1
    · rw [if_pos e]
      refine ⟨fun h => ?_, fun k => ?_⟩
      · simpa [e] using h
      · simp [e]
    · rw [if_neg e]
      refine ⟨fun h => ?_, fun k => ?_⟩
      · simp only [List.map_cons, List.nodup_cons] at h ⊢
        refine ⟨fun hc => ?_, ih.1 h.2⟩
        rcases (ih.2 y.1).1 hc with h2 | h2
        · exact e h2
        · exact h.1 h2
      · simp only [List.map_cons, List.mem_cons, ih.2 k]
        constructor
        · rintro (h | h | h)
          · exact .inr (.inl h)
          · exact .inl h
          · exact .inr (.inr h)
        · rintro (h | h | h)
          · exact .inr (.inl h)
          · exact .inl h
          · exact .inr (.inr h)
theorem exM_keys (L : List Spn) (v : List Of) : ∀ (p : List Sg) (m : List Of), ((m.map (·.1)).Nodup → ((exM L v m p).map (·.1)).Nodup) ∧ ∀ k, k ∈ (exM L v m p).map (·.1) ↔ (k ∈ m.map (·.1) ∨ (p.any fun g => decide (g.sp.2 = k)) = true)
  | [], m => by simp [exM]
  | g :: p, m => by
    have h1 := putO_keys m (g.sp.2, IntKind.i64.wrap ((getO m g.sp.2).getD 0 + lenM L v g))
    have ih := exM_keys L v p (putO m (g.sp.2, IntKind.i64.wrap ((getO m g.sp.2).getD 0 + lenM L v g)))
    refine ⟨fun h => ih.1 (h1.1 h), fun k => ?_⟩
    show k ∈ (exM L v (putO m (g.sp.2, IntKind.i64.wrap ((getO m g.sp.2).getD 0 + lenM L v g))) p).map (·.1) ↔ _
    rw [ih.2 k, h1.2 k, List.any_cons, Bool.or_eq_true, decide_eq_true_eq]
    constructor
    · rintro ((h | h) | h)
      · exact .inr (.inl h.symm)
      · exact .inl h
      · exact .inr (.inr h)
    · rintro (h | h | h)
      · exact .inl (.inr h)
      · exact .inl (.inl h.symm)
      · exact .inr h
/-- The answer of Exclusive: of the trace's spans, in order, those that are on the path. -/
theorem exF_is {L : List Spn} (hs : L.Pairwise fun a b => a.id < b.id) (v : List Of) {p : List Sg} (hp : ∀ g ∈ p, ∃ x ∈ L, g.sp.2 = x.id) : exF p (p.map (lenM L v)) = (L.filter fun z => p.any fun g => decide (g.sp.2 = z.id)).map fun z => (z.id, eS (timM L v) z.id p 0) := by
  unfold exF
  rw [exN_is]
  have hk := exM_keys L v p []
  have hsrt : srtI ((exM L v [] p).map (·.1)) = (L.filter fun z => p.any fun g => decide (g.sp.2 = z.id)).map Spn.id := by
    have hL2 : ((L.filter fun z => p.any fun g => decide (g.sp.2 = z.id)).map Spn.id).Pairwise (· < ·) := by
      rw [List.pairwise_map]
      exact hs.filter _
    have hpm : ((exM L v [] p).map (·.1)).Perm ((L.filter fun z => p.any fun g => decide (g.sp.2 = z.id)).map Spn.id) := by
      rw [List.perm_ext_iff_of_nodup (hk.1 (by simp)) (hL2.imp fun {a b} h e => by omega)]
      intro k
      rw [hk.2 k]
      simp only [List.map_nil, List.not_mem_nil, false_or, List.mem_map, List.mem_filter]
      constructor
      · intro h
        obtain ⟨g, hg, e⟩ := List.any_eq_true.1 h
        obtain ⟨x, hx, hx2⟩ := hp g hg
        have e2 : g.sp.2 = k := by simpa using e
        exact ⟨x, ⟨hx, by rw [← hx2, e2]; exact h⟩, by rw [← hx2, e2]⟩
      · rintro ⟨x, ⟨_, h⟩, rfl⟩
        exact h
    rw [srtI_uni hpm]
    exact List.mergeSort_of_pairwise (hL2.imp fun {a b} h => by simp; omega)
  rw [hsrt, List.map_map]
  refine List.map_congr_left fun z hz => ?_
  have hz2 := (List.mem_filter.1 hz).2
  simp only [Function.comp]
  rw [exM_get, if_pos hz2]
  simp [getO]
end Go.Proofs.YtaaflhmfhnfjhaaGreat
namespace Go.Proofs.YtaaflhmfhnfjhaaGreat
open Go.RowKit Go.Exe
/-! ### the document's self -/
def runS (l : List Spn) (v : List Of) (id : Int) (τ : Int) (k : Spn) : Bool := ((k.pa == id && k.kd != 5) && decide (timM l v (evOf k false) ≤ τ)) && decide (τ < timM l v (evOf k true))
def freeB (l : List Spn) (v : List Of) (id : Int) (τ : Int) : Bool := !(l.any (runS l v id τ))
theorem free_step {l : List Spn} {v : List Of} {id τ : Int} {i : Nat} {k : Spn} (h : l[i]? = some k) : (!((l.take (i + 1)).any (runS l v id τ))) = if runS l v id τ k then false else !((l.take i).any (runS l v id τ)) := by
  rw [List.take_add_one, h, Option.toList_some, List.any_append, List.any_cons, List.any_nil, Bool.or_false]
  cases (l.take i).any (runS l v id τ) <;> cases runS l v id τ k <;> rfl
abbrev clN (l : List Spn) (v : List Of) : Exe.Obj := .nbox 58 [.im (.sl 36 (l.map spA)), .im (.sl 80 (v.map ofA)), .orow 193 [], fl (.int .i64 0)]
attribute [local irreducible] W AX Run RunD AStep AOp AOpX AStB AStH AStG Fits PCall GCall PostG Post Stop
theorem self29_c (l : List Spn) (v : List Of) (id : Int) (j : Nat) (hj : l.findIdx? (fun x => x.id == id) = some j) (s : Spn) (hs : l[j]? = some s)
    (ha : -10000 < timM l v (evOf s false) ∧ timM l v (evOf s false) < 10000) (hb : -10000 < timM l v (evOf s true) ∧ timM l v (evOf s true) < 10000) :
    PCall Tryz.prog 29 [spsT l, ofsT v, ft (.int .i64 id)] (ft (.int .i64 (cntI2 (freeB l v id) (timM l v (evOf s false)) (timM l v (evOf s true)) : Nat))) := by
  have c18 := at18_c l id
  have hat : atI l id = (j : Nat) := by simp [atI, hj]
  rw [hat] at c18
  have c51 := event51_c
  simp only [spT, spA, evT, evA, evOf, List.map] at c51
  have c52 := blocks_c
  have c23 := fun x => time23_c l v [] 0 x
  have hjl : j < l.length := (List.findIdx?_eq_some_iff_getElem.1 hj).1
  have e2 : decide (j < l.length) = true := by simp [hjl]
  clear hj hat
  refine PCall.intro (nt := 76) (rs := [.tmp 6]) Tryz.func29 rfl ⟨by kernel_rfl, by kernel_rfl, by kernel_rfl⟩ (by simp) ?_
  rintro ⟨P, w0, ok0, may, np, pblk⟩ rfl rfl
  refine W.lenB 0 rfl tE36 fun hl0 hl1 => ?_
  rw [List.length_map] at hl1
  repeat' (first | refine W.stop (id := 3) ?_ | refine W.seq fun K hK => ?_ | refine W.block ?_ | ((first | refine wR ?_ | refine wD ?_ | refine W.skip ?_ | refine W.exit ?_ | refine W.ret (Post.ret ?_) | refine aP ?_ | refine aF ?_); simp only [go_sem, reduceCtorEq, List.getElem?_map, hs, spA, e2, List.length_map]) | refine wT ?_ | refine wF ?_ | refine wC (fun h => ?_) (fun h => ?_) | refine iK ?_ | refine aI2 ?_ | (refine hK _ ?_; clear hK K) | clear hK K)
  refine Stop.out ?_
  refine W.fits (s' := { t := [(0, spsT l), (2, ft (.int .i64 id)), (7, .c (.ptr 0 0)), (8, .c (.ptr 1 0))], h := [(0, clN l v), (1, .box 36 ((spA s).map .im))], nx := 2, ex := [], nt := 76 }) ?_ ?_
  · refine Fits.adoptB 4 58 _ 2 900 193 rfl rfl rfl rfl tE193 rfl (Fits.toNB 4 rfl (Fits.fold 4 0 2 900 (.orow 193 []) rfl rfl rfl (by simp [Obj.slot, refCell]) (by decide) ?_))
    refine Fits.fit [(4, 0), (12, 1)] [0, 2, 7, 8] 2 rfl rfl ?_
    simp only [go_sem, spA, List.map]
    exact Fits.rfl
  clear c18 hs e2
  have ka := c23 (evOf s false)
  have kb := c23 (evOf s true)
  simp only [clO, spT, spA, evT, evA, evOf, List.map] at ka kb
  generalize hA : timM l v (evOf s false) = a at *
  generalize hB : timM l v (evOf s true) = b at *
  simp only [evOf] at hA hB
  rw [hA] at ka
  rw [hB] at kb
  clear hA hB
  simp only [spA, List.map]
  repeat' (first | refine W.seq fun K hK => ?_ | refine W.block ?_ | ((first | refine wR ?_ | refine wD ?_ | refine W.skip ?_ | refine W.exit ?_ | refine W.ret (Post.ret ?_) | refine aP ?_ | refine aF ?_); simp only [go_sem, reduceCtorEq]) | refine wT ?_ | refine wF ?_ | refine wC (fun h => ?_) (fun h => ?_) | refine iK ?_ | refine aI2 ?_ | (refine hK _ ?_; clear hK K) | clear hK K)
  refine AX.gcall [0] rfl rfl (ka) (by simp only [go_sem, reduceCtorEq]) (by simp only [go_sem, reduceCtorEq]) rfl rfl (by simp only [go_sem, Obj.owns]) rfl (by simp only [go_sem, Obj.owns]) rfl rfl ?_
  simp only [go_sem, reduceCtorEq]
  repeat' (first | refine W.seq fun K hK => ?_ | refine W.block ?_ | ((first | refine wR ?_ | refine wD ?_ | refine W.skip ?_ | refine W.exit ?_ | refine W.ret (Post.ret ?_) | refine aP ?_ | refine aF ?_); simp only [go_sem, reduceCtorEq]) | refine wT ?_ | refine wF ?_ | refine wC (fun h => ?_) (fun h => ?_) | refine iK ?_ | refine aI2 ?_ | (refine hK _ ?_; clear hK K) | clear hK K)
  clear ka
  refine W.loopF (T := fun x : Nat × Int => { t := [(0, spsT l), (2, ft (.int .i64 id)), (7, .c (.ptr 0 0)), (8, .c (.ptr 1 0)), (9, ft (.int .i64 (cntZ (freeB l v id) a x.1 : Nat))), (10, ft (.int .i64 x.2))], h := [(0, clN l v), (1, .box 36 ((spA s).map .im))], nx := 2, ex := [], nt := 76 })
    (Inv := fun x => x.1 ≤ (b - a).toNat ∧ x.2 = a + (x.1 : Nat)) (μ := fun x => (b - a).toNat - x.1) (x0 := (0, a)) ?_ ⟨Nat.zero_le _, by simp⟩ ?_
  · refine Fits.fit [(0, 0), (1, 1)] [0, 2, 7, 8, 9, 10] 2 rfl rfl ?_
    simp only [go_sem, spA, List.map, cntZ, List.range_zero, List.countP_nil]
    exact Fits.rfl
  rintro ⟨n, τ⟩ ⟨hn, hτ⟩ KL hKL
  simp only at hn hτ
  simp only [spA, List.map]
  by_cases hlt : τ < b
  · have f1 : decide (τ < b) = true := by simp [hlt]
    have w1 : IntKind.i64.wrap (τ + 1) = τ + 1 := w64 (by omega) (by omega)
    have hcl : cntZ (freeB l v id) a n ≤ n := by
      have := cntZ_le (freeB l v id) (fun _ => true) a n fun _ _ _ => rfl
      rw [cntZ_all (fun _ => true) a n fun _ _ => rfl] at this
      exact this
    have w2 := w64s (cntZ (freeB l v id) a n) (by omega)
    have hcs := cntZ_succ (freeB l v id) a n
    repeat' (first | refine W.seq fun K hK => ?_ | refine W.block ?_ | ((first | refine wR ?_ | refine wD ?_ | refine W.skip ?_ | refine W.exit ?_ | refine W.ret (Post.ret ?_) | refine aP ?_ | refine aF ?_); simp only [go_sem, reduceCtorEq]) | refine wT ?_ | refine wF ?_ | refine wC (fun h => ?_) (fun h => ?_) | refine iK ?_ | refine aI2 ?_ | (refine hK _ ?_; clear hK K) | clear hK K)
    refine AX.gcall [0] rfl rfl (kb) (by simp only [go_sem, reduceCtorEq, f1]) (by simp only [go_sem, reduceCtorEq, f1]) rfl rfl (by simp only [go_sem, Obj.owns]) rfl (by simp only [go_sem, Obj.owns]) rfl rfl ?_
    simp only [go_sem, reduceCtorEq, f1]
    repeat' (first | refine W.seq fun K hK => ?_ | refine W.block ?_ | ((first | refine wR ?_ | refine wD ?_ | refine W.skip ?_ | refine W.exit ?_ | refine W.ret (Post.ret ?_) | refine aP ?_ | refine aF ?_); simp only [go_sem, reduceCtorEq, f1]) | refine wT ?_ | refine wF ?_ | refine wC (fun h => ?_) (fun h => ?_) | refine iK ?_ | refine aI2 ?_ | (refine hK _ ?_; clear hK K) | clear hK K)
    refine W.loopF (T := fun i : Nat => { t := [(0, spsT l), (2, ft (.int .i64 id)), (7, .c (.ptr 0 0)), (8, .c (.ptr 1 0)), (9, ft (.int .i64 (cntZ (freeB l v id) a n : Nat))), (10, ft (.int .i64 τ)), (11, ft (.bool (!((l.take i).any (runS l v id τ))))), (12, ft (.int .i64 (i : Nat)))], h := [(0, clN l v), (1, .box 36 ((spA s).map .im))], nx := 2, ex := [], nt := 76 })
      (Inv := fun i => i ≤ l.length) (μ := fun i => l.length - i) (x0 := 0) ?_ (Nat.zero_le _) ?_
    · refine Fits.fit [(0, 0), (1, 1)] [0, 2, 7, 8, 9, 10, 11, 12] 2 rfl rfl ?_
      simp only [go_sem, spA, List.map, List.take_zero, List.any_nil, Bool.not_false]
      exact Fits.rfl
    intro i hi KJ hKJ
    simp only [spA, List.map]
    by_cases hil : i < l.length
    · obtain ⟨k, hx, hm, hd⟩ := drop_at hil
      have g1 : decide ((i : Int) < l.length) = true := by simp; omega
      have g2 : decide (i < l.length) = true := by simp; omega
      have gw := w64s i (by omega)
      have hst := free_step (v := v) (id := id) (τ := τ) hx
      clear kb hcs hKL
      repeat' (first | refine W.stop (id := 11) ?_ | refine W.seq fun K hK => ?_ | refine W.block ?_ | ((first | refine wR ?_ | refine wD ?_ | refine W.skip ?_ | refine W.exit ?_ | refine W.ret (Post.ret ?_) | refine aP ?_ | refine aF ?_); simp only [go_sem, reduceCtorEq, g1, List.length_map]) | refine wT ?_ | refine wF ?_ | refine wC (fun h => ?_) (fun h => ?_) | refine iK ?_ | refine aI2 ?_ | (refine hK _ ?_; clear hK K) | clear hK K)
      refine Stop.out ?_
      have hKb : ∀ b, runS l v id τ k = b → ∀ s1, Fits { P := Tryz.prog, w0 := w0, ok0 := ok0, may := may, np := 0, pblk := pblk } s1 { t := [(0, spsT l), (2, ft (.int .i64 id)), (7, .c (.ptr 0 0)), (8, .c (.ptr 1 0)), (9, ft (.int .i64 (cntZ (freeB l v id) a n : Nat))), (10, ft (.int .i64 τ)), (11, ft (.bool (!((l.take i).any (runS l v id τ))))), (12, ft (.int .i64 (i : Nat))), (71, ft (.bool b))], h := [(0, clN l v), (1, .box 36 ((spA s).map .im))], nx := 2, ex := [], nt := 76 } → K s1 := by
        intro b hb s1 hf
        refine hK _ (W.fits hf ?_)
        clear hf hK K
        rw [hb] at hst
        simp only [spA, List.map]
        cases b with
        | false =>
          simp only [Bool.false_eq_true, if_false] at hst
          repeat' (first | refine W.seq fun K hK => ?_ | refine W.block ?_ | ((first | refine wR ?_ | refine wD ?_ | refine W.skip ?_ | refine W.exit ?_ | refine W.ret (Post.ret ?_) | refine aP ?_ | refine aF ?_); simp only [go_sem, reduceCtorEq, gw]) | refine wT ?_ | refine wF ?_ | refine wC (fun h => ?_) (fun h => ?_) | refine iK ?_ | refine aI2 ?_ | (refine hK _ ?_; clear hK K) | clear hK K)
          refine hKJ.to (i + 1) (by omega) (by omega) (Fits.fit [(0, 0), (1, 1)] [0, 2, 7, 8, 9, 10, 11, 12] 2 rfl rfl ?_)
          simp only [go_sem, spA, List.map, hst]
          exact Fits.rfl
        | true =>
          simp only [if_true] at hst
          repeat' (first | refine W.seq fun K hK => ?_ | refine W.block ?_ | ((first | refine wR ?_ | refine wD ?_ | refine W.skip ?_ | refine W.exit ?_ | refine W.ret (Post.ret ?_) | refine aP ?_ | refine aF ?_); simp only [go_sem, reduceCtorEq, gw]) | refine wT ?_ | refine wF ?_ | refine wC (fun h => ?_) (fun h => ?_) | refine iK ?_ | refine aI2 ?_ | (refine hK _ ?_; clear hK K) | clear hK K)
          refine hKJ.to (i + 1) (by omega) (by omega) (Fits.fit [(0, 0), (1, 1)] [0, 2, 7, 8, 9, 10, 11, 12] 2 rfl rfl ?_)
          simp only [go_sem, spA, List.map, hst]
          exact Fits.rfl
      clear hK hKJ hst
      obtain ⟨x0, hx0⟩ : ∃ x, x = timM l v (evOf k false) := ⟨_, rfl⟩
      obtain ⟨x1, hx1⟩ : ∃ x, x = timM l v (evOf k true) := ⟨_, rfl⟩
      have hrun : runS l v id τ k = (((k.pa == id && k.kd != 5) && decide (x0 ≤ τ)) && decide (τ < x1)) := by rw [hx0, hx1]; rfl
      have rf := c23 (evOf k false)
      have rt := c23 (evOf k true)
      rw [← hx0] at rf
      rw [← hx1] at rt
      simp only [clO, spT, spA, evT, evA, evOf, List.map] at rf rt
      clear c23
      cases p1 : (k.pa == id) with
      | false =>
        rw [p1] at hrun
        repeat' (first | refine W.seq fun K hK => ?_ | refine W.block ?_ | ((first | refine wR ?_ | refine wD ?_ | refine W.skip ?_ | refine W.exit ?_ | refine W.ret (Post.ret ?_) | refine aP ?_ | refine aF ?_); simp only [go_sem, reduceCtorEq, List.getElem?_map, hx, spA, g2, p1, List.length_map]) | refine wT ?_ | refine wF ?_ | refine wC (fun h => ?_) (fun h => ?_) | refine iK ?_ | refine aI2 ?_ | (refine hK _ ?_; clear hK K) | clear hK K)
        refine hKb false (by rw [hrun]; rfl) _ (Fits.fit [(0, 0), (1, 1)] [0, 2, 7, 8, 9, 10, 11, 12, 71] 2 rfl rfl ?_)
        simp only [go_sem, spA, List.map]
        exact Fits.rfl
      | true =>
      rw [p1] at hrun
      cases p2 : (k.kd != 5) with
      | false =>
        rw [p2] at hrun
        repeat' (first | refine W.seq fun K hK => ?_ | refine W.block ?_ | ((first | refine wR ?_ | refine wD ?_ | refine W.skip ?_ | refine W.exit ?_ | refine W.ret (Post.ret ?_) | refine aP ?_ | refine aF ?_); simp only [go_sem, reduceCtorEq, List.getElem?_map, hx, spA, g2, p1, p2, List.length_map]) | refine wT ?_ | refine wF ?_ | refine wC (fun h => ?_) (fun h => ?_) | refine iK ?_ | refine aI2 ?_ | (refine hK _ ?_; clear hK K) | clear hK K)
        refine hKb false (by rw [hrun]; rfl) _ (Fits.fit [(0, 0), (1, 1)] [0, 2, 7, 8, 9, 10, 11, 12, 71] 2 rfl rfl ?_)
        simp only [go_sem, spA, List.map]
        exact Fits.rfl
      | true =>
      rw [p2] at hrun
      cases p3 : decide (x0 ≤ τ) with
      | false =>
        rw [p3] at hrun
        repeat' (first | refine W.seq fun K hK => ?_ | refine W.block ?_ | ((first | refine wR ?_ | refine wD ?_ | refine W.skip ?_ | refine W.exit ?_ | refine W.ret (Post.ret ?_) | refine aP ?_ | refine aF ?_); simp only [go_sem, reduceCtorEq, List.getElem?_map, hx, spA, g2, p1, p2, List.length_map]) | refine wT ?_ | refine wF ?_ | refine wC (fun h => ?_) (fun h => ?_) | refine iK ?_ | refine aI2 ?_ | (refine hK _ ?_; clear hK K) | clear hK K)
        refine AX.gcall [0] rfl rfl (rf) (by simp only [go_sem, reduceCtorEq, p3]) (by simp only [go_sem, reduceCtorEq, p3]) rfl rfl (by simp only [go_sem, Obj.owns]) rfl (by simp only [go_sem, Obj.owns]) rfl rfl ?_
        simp only [go_sem, reduceCtorEq, p3]
        repeat' (first | refine W.seq fun K hK => ?_ | refine W.block ?_ | ((first | refine wR ?_ | refine wD ?_ | refine W.skip ?_ | refine W.exit ?_ | refine W.ret (Post.ret ?_) | refine aP ?_ | refine aF ?_); simp only [go_sem, reduceCtorEq, List.getElem?_map, hx, spA, g2, p1, p2, p3, List.length_map]) | refine wT ?_ | refine wF ?_ | refine wC (fun h => ?_) (fun h => ?_) | refine iK ?_ | refine aI2 ?_ | (refine hK _ ?_; clear hK K) | clear hK K)
        refine hKb false (by rw [hrun]; rfl) _ (Fits.fit [(0, 0), (1, 1)] [0, 2, 7, 8, 9, 10, 11, 12, 71] 2 rfl rfl ?_)
        simp only [go_sem, spA, List.map]
        exact Fits.rfl
      | true =>
      rw [p3] at hrun
      repeat' (first | refine W.seq fun K hK => ?_ | refine W.block ?_ | ((first | refine wR ?_ | refine wD ?_ | refine W.skip ?_ | refine W.exit ?_ | refine W.ret (Post.ret ?_) | refine aP ?_ | refine aF ?_); simp only [go_sem, reduceCtorEq, List.getElem?_map, hx, spA, g2, p1, p2, List.length_map]) | refine wT ?_ | refine wF ?_ | refine wC (fun h => ?_) (fun h => ?_) | refine iK ?_ | refine aI2 ?_ | (refine hK _ ?_; clear hK K) | clear hK K)
      refine AX.gcall [0] rfl rfl (rf) (by simp only [go_sem, reduceCtorEq, p3, List.getElem?_map, hx, spA]) (by simp only [go_sem, reduceCtorEq, p3, List.getElem?_map, hx, spA]) rfl rfl (by simp only [go_sem, Obj.owns]) rfl (by simp only [go_sem, Obj.owns]) rfl rfl ?_
      simp only [go_sem, reduceCtorEq, p3, List.getElem?_map, hx, spA]
      repeat' (first | refine W.seq fun K hK => ?_ | refine W.block ?_ | ((first | refine wR ?_ | refine wD ?_ | refine W.skip ?_ | refine W.exit ?_ | refine W.ret (Post.ret ?_) | refine aP ?_ | refine aF ?_); simp only [go_sem, reduceCtorEq, List.getElem?_map, hx, spA, g2, p1, p2, p3, List.length_map]) | refine wT ?_ | refine wF ?_ | refine wC (fun h => ?_) (fun h => ?_) | refine iK ?_ | refine aI2 ?_ | (refine hK _ ?_; clear hK K) | clear hK K)
      refine AX.gcall [0] rfl rfl (rt) (by simp only [go_sem, reduceCtorEq]) (by simp only [go_sem, reduceCtorEq]) rfl rfl (by simp only [go_sem, Obj.owns]) rfl (by simp only [go_sem, Obj.owns]) rfl rfl ?_
      simp only [go_sem, reduceCtorEq]
      repeat' (first | refine W.seq fun K hK => ?_ | refine W.block ?_ | ((first | refine wR ?_ | refine wD ?_ | refine W.skip ?_ | refine W.exit ?_ | refine W.ret (Post.ret ?_) | refine aP ?_ | refine aF ?_); simp only [go_sem, reduceCtorEq]) | refine wT ?_ | refine wF ?_ | refine wC (fun h => ?_) (fun h => ?_) | refine iK ?_ | refine aI2 ?_ | (refine hK _ ?_; clear hK K) | clear hK K)
      refine hKb (decide (τ < x1)) (by rw [hrun]; rfl) _ (Fits.fit [(0, 0), (1, 1)] [0, 2, 7, 8, 9, 10, 11, 12, 71] 2 rfl rfl ?_)
      simp only [go_sem, spA, List.map]
      exact Fits.rfl
    · obtain rfl : i = l.length := by omega
      have g1 : decide ((l.length : Int) < l.length) = false := by simp
      rw [List.take_length]
      have hfr : freeB l v id τ = !(l.any (runS l v id τ)) := rfl
      rw [← hfr]
      rw [← hτ] at hcs
      clear hKJ kb
      cases hv : freeB l v id τ with
      | false =>
        rw [hv] at hcs
        simp only [Bool.false_eq_true, if_false, Nat.add_zero] at hcs
        repeat' (first | refine W.seq fun K hK => ?_ | refine W.block ?_ | ((first | refine wR ?_ | refine wD ?_ | refine W.skip ?_ | refine W.exit ?_ | refine W.ret (Post.ret ?_) | refine aP ?_ | refine aF ?_); simp only [go_sem, reduceCtorEq, g1, w1, List.length_map]) | refine wT ?_ | refine wF ?_ | refine wC (fun h => ?_) (fun h => ?_) | refine iK ?_ | refine aI2 ?_ | (refine hK _ ?_; clear hK K) | clear hK K)
        refine hKL.to (n + 1, τ + 1) ⟨by simp only; omega, by simp only; omega⟩ (by simp only; omega) (Fits.fit [(0, 0), (1, 1)] [0, 2, 7, 8, 9, 10] 2 rfl rfl ?_)
        simp only [go_sem, spA, List.map, hcs]
        exact Fits.rfl
      | true =>
        rw [hv] at hcs
        simp only [if_true] at hcs
        repeat' (first | refine W.seq fun K hK => ?_ | refine W.block ?_ | ((first | refine wR ?_ | refine wD ?_ | refine W.skip ?_ | refine W.exit ?_ | refine W.ret (Post.ret ?_) | refine aP ?_ | refine aF ?_); simp only [go_sem, reduceCtorEq, g1, w1, w2, List.length_map]) | refine wT ?_ | refine wF ?_ | refine wC (fun h => ?_) (fun h => ?_) | refine iK ?_ | refine aI2 ?_ | (refine hK _ ?_; clear hK K) | clear hK K)
        refine hKL.to (n + 1, τ + 1) ⟨by simp only; omega, by simp only; omega⟩ (by simp only; omega) (Fits.fit [(0, 0), (1, 1)] [0, 2, 7, 8, 9, 10] 2 rfl rfl ?_)
        simp only [go_sem, spA, List.map, hcs]
        exact Fits.rfl
  · obtain rfl : n = (b - a).toNat := by omega
    have f1 : decide (τ < b) = false := by simp; omega
    have hfin : cntZ (freeB l v id) a (b - a).toNat = cntI2 (freeB l v id) a b := rfl
    clear hKL
    repeat' (first | refine W.seq fun K hK => ?_ | refine W.block ?_ | ((first | refine wR ?_ | refine wD ?_ | refine W.skip ?_ | refine W.exit ?_ | refine W.ret (Post.ret ?_) | refine aP ?_ | refine aF ?_); simp only [go_sem, reduceCtorEq]) | refine wT ?_ | refine wF ?_ | refine wC (fun h => ?_) (fun h => ?_) | refine iK ?_ | refine aI2 ?_ | (refine hK _ ?_; clear hK K) | clear hK K)
    refine AX.gcall [0] rfl rfl (kb) (by simp only [go_sem, reduceCtorEq, f1]) (by simp only [go_sem, reduceCtorEq, f1]) rfl rfl (by simp only [go_sem, Obj.owns]) rfl (by simp only [go_sem, Obj.owns]) rfl rfl ?_
    simp only [go_sem, reduceCtorEq, f1]
    repeat' (first | refine W.seq fun K hK => ?_ | refine W.block ?_ | ((first | refine wR ?_ | refine wD ?_ | refine W.skip ?_ | refine W.exit ?_ | refine W.ret (Post.ret ?_) | refine aP ?_ | refine aF ?_); simp only [go_sem, reduceCtorEq, f1, hfin]) | refine wT ?_ | refine wF ?_ | refine wC (fun h => ?_) (fun h => ?_) | refine iK ?_ | refine aI2 ?_ | (refine hK _ ?_; clear hK K) | clear hK K)
end Go.Proofs.YtaaflhmfhnfjhaaGreat
namespace Go.Proofs.YtaaflhmfhnfjhaaGreat
open Go.RowKit Go.Exe
/-! ### CriticalExclusive -/
def onP (p : List Sg) (z : Spn) : Bool := p.any fun g => decide (g.sp.2 = z.id)
structure ExIs (l L : List Spn) (v : List Of) (p : List Sg) : Prop where
  lst : exF p (p.map (lenM L v)) = (L.filter (onP p)).map fun z => (z.id, wS (timM L v) z.id p 0)
  on : ∀ z ∈ L, onP p z = true → wS (timM L v) z.id p 0 ≠ 0
  off : ∀ z ∈ L, onP p z = false → wS (timM L v) z.id p 0 = 0
  self : ∀ z ∈ L, onP p z = true → wS (timM L v) z.id p 0 ≤ (cntI2 (freeB l v z.id) (timM L v (evOf z false)) (timM L v (evOf z true)) : Nat)
  ids : ∀ g ∈ p, ∃ x ∈ L, g.sp.2 = x.id
theorem Trn.ex {l L : List Spn} {tr : Int} (h : Trn l L tr) {v : List Of} {r : Spn} (hr : r ∈ L) {p : List Sg} (hp : PthIs L v r p) (hsm : ∀ x ∈ evsL L, -2000 < timM L v x ∧ timM L v x < 4000) (hse : ∀ z ∈ L, timM L v (evOf z false) ≤ timM L v (evOf z true)) : ExIs l L v p := by
  obtain ⟨lo, cur, hlo, hcur, ht⟩ : ∃ lo cur, lo ∈ evsL L ∧ cur ∈ evsL L ∧ TilP (timM L v) p lo cur := by
    by_cases hlt : timM L v (evOf r false) < timM L v (evOf r true)
    · exact ⟨_, _, evs_mem hr _, evs_mem hr _, hp.til hlt⟩
    · rw [hp.nil hlt]
      exact ⟨evOf r false, evOf r false, evs_mem hr _, evs_mem hr _, rfl⟩
  have b1 := hsm lo hlo
  have b2 := hsm cur hcur
  have hb : ∀ g ∈ p, (-10000 < timM L v g.fr ∧ timM L v g.fr < 10000) ∧ -10000 < timM L v g.to ∧ timM L v g.to < 10000 := fun g hg => by
    have h1 := hsm _ (hp.ev g hg).1
    have h2 := hsm _ (hp.ev g hg).2
    omega
  have hW := fun id => wS_is (id := id) (n := 0) ht hb (Int.le_refl _) (by omega)
  have hpid : ∀ g ∈ p, ∃ x ∈ L, g.sp.2 = x.id := fun g hg => by
    obtain ⟨x, hx⟩ := hp.seg g hg
    exact ⟨x, hx.mem, by rw [hx.sp]⟩
  refine ⟨?_, fun z hz ho => ?_, fun z hz ho => ?_, fun z hz ho => ?_, hpid⟩
  · rw [exF_is h.srt v hpid]
    show (L.filter (onP p)).map _ = _
    refine List.map_congr_left fun z _ => ?_
    rw [(hW z.id).1, (hW z.id).2]
  · rw [(hW z.id).1, Int.zero_add]
    exact (rS_pos ht).2 ho
  · rw [(hW z.id).1, Int.zero_add]
    refine Decidable.byContradiction fun hn => ?_
    have := (rS_pos ht).1 hn
    unfold onP at ho
    rw [this] at ho
    cases ho
  · rw [(hW z.id).1, Int.zero_add]
    obtain ⟨P, hP⟩ : ∃ P : Int → Bool, P = fun τ => decide (timM L v (evOf z false) ≤ τ) && decide (τ < timM L v (evOf z true)) && freeB l v z.id τ := ⟨_, rfl⟩
    have h1 : rS (timM L v) z.id p ≤ cntI2 P (timM L v lo) (timM L v cur) := rS_cnt ht fun g hg hgi τ h1 h2 => by
      obtain ⟨x, hx⟩ := hp.seg g hg
      have hxz : x = z := id_eq h.nd hx.mem hz (by rw [← hgi, hx.sp])
      subst hxz
      have h3 := hx.fr
      have h4 := hx.to
      have hfree : freeB l v x.id τ = true := by
        unfold freeB
        rw [Bool.not_eq_true', List.any_eq_false]
        intro k hk hrun
        have hkL := h.perm.mem_iff.2 hk
        unfold runS at hrun
        rw [h.timLl v (evs_mem hkL _), h.timLl v (evs_mem hkL _)] at hrun
        simp only [Bool.and_eq_true, decide_eq_true_eq, beq_iff_eq, bne_iff_ne] at hrun
        obtain ⟨⟨⟨k1, k2⟩, k3⟩, k4⟩ := hrun
        refine hx.free k (List.mem_filter.2 ⟨hkL, by simp [k1, k2]⟩) ⟨?_, ?_, ?_⟩
        · omega
        · omega
        · omega
      rw [hP]
      simp only [hfree, Bool.and_true, Bool.and_eq_true, decide_eq_true_eq]
      omega
    have h2 : cntI2 P (timM L v lo) (timM L v cur) ≤ cntI2 (freeB l v z.id) (timM L v (evOf z false)) (timM L v (evOf z true)) := cntI2_in ht.le (hse z hz) fun τ hτ => by
      rw [hP] at hτ
      simp only [Bool.and_eq_true, decide_eq_true_eq] at hτ
      exact hτ
    omega
attribute [local irreducible] W AX Run RunD AStep AOp AOpX AStB AStH AStG Fits PCall GCall PostG Post Stop
end Go.Proofs.YtaaflhmfhnfjhaaGreat
namespace Go.Proofs.YtaaflhmfhnfjhaaGreat
open Go.RowKit Go.Exe
/-! ### blocking, its map the caller's own -/
attribute [local irreducible] W AX Run RunD AStep AOp AOpX AStB AStH AStG Fits PCall GCall PostG Post Stop
theorem blkO_c (c53 : SortC Tryz.prog 53 14) (ss : List Spn) (hnd : (idsOf ss).Nodup) (hI : ∀ s ∈ ss, I64 s.pa) (hlen : ss.length * 168 ≤ 140737488355328) : GCall Tryz.prog 43 0 (St.g [spsT ss] [] 0) (St.r (.c (.mp 0)) [(0, .map 3 (kE (kidM ss)))] 1) := by
  have c66 := values_c ss
  have c52 := blocks_c
  obtain ⟨L, hL⟩ : ∃ l, l = srtId ss := ⟨_, rfl⟩
  have hLI : ∀ s ∈ L, I64 s.pa := fun s hs => hI s ((srtId_perm ss).mem_iff.1 (hL ▸ hs))
  have hLl : L.length * 168 ≤ 140737488355328 := by rw [hL, (srtId_perm ss).length_eq]; exact hlen
  have c65 := sortedId_c c53 ss hnd hlen
  unfold kidM
  rw [← hL] at c65 ⊢
  clear hL c53 hI hlen hnd
  refine GCall.introG (nt := 34) (rs := [.tmp 2]) Tryz.func43 rfl ⟨by kernel_rfl, by kernel_rfl, by kernel_rfl⟩ (by simp) ?_
  rintro ⟨P, w0, ok0, may, np, pblk⟩ rfl rfl
  simp only [go_sem]
  repeat' (first | refine W.seq fun K hK => ?_ | refine W.block ?_ | ((first | refine wR ?_ | refine wD ?_ | refine W.skip ?_ | refine W.exit ?_ | refine W.ret (Post.ret ?_) | refine aP ?_ | refine aF ?_ | refine aL ?_ | refine aU ?_ | refine aM ?_ | refine aN ?_ | refine aR ?_); simp only [go_sem, reduceCtorEq]) | refine wT ?_ | refine wF ?_ | refine wC (fun h => ?_) (fun h => ?_) | refine iK ?_ | refine aI2 ?_ | (refine hK _ ?_; clear hK K) | clear hK K)
  refine AX.gcall [] rfl rfl (c65) (by simp only [go_sem, reduceCtorEq, List.length_map, imR_len]) (by simp only [go_sem, reduceCtorEq, List.length_map, imR_len]) rfl rfl (by simp only [go_sem, Obj.owns]) rfl (by simp only [go_sem, Obj.owns]) rfl rfl ?_
  simp only [go_sem, reduceCtorEq, List.length_map, imR_len]
  repeat' (first | refine W.seq fun K hK => ?_ | refine W.block ?_ | ((first | refine wR ?_ | refine wD ?_ | refine W.skip ?_ | refine W.exit ?_ | refine W.ret (Post.ret ?_) | refine aP ?_ | refine aF ?_ | refine aL ?_ | refine aU (hnn := by simp only [go_sem, reduceCtorEq, List.length_map, imR_len]) ?_ | refine aM ?_ | refine aN ?_ | refine aR ?_); simp only [go_sem, reduceCtorEq, List.length_map, imR_len]) | refine wT ?_ | refine wF ?_ | refine wC (fun h => ?_) (fun h => ?_) | refine iK ?_ | refine aI2 ?_ | (refine hK _ ?_; clear hK K) | clear hK K)
  clear c65 c66
  refine W.loopF (T := fun i : Nat => { t := [(3, .c (.mp 0)), (9, .c (.ref 1)), (10, ft (.int .i64 L.length)), (11, ft (.int .i64 (i : Nat)))], h := [(0, .map 3 (kE (kmN L i))), (1, .row 36 (imR (L.map spA)))], nx := 2, ex := [], nt := 34 })
    (Inv := fun i => i ≤ L.length) (μ := fun i => L.length - i) (x0 := 0) ?_ (Nat.zero_le _) ?_
  · refine Fits.fit [(1, 0), (5, 1)] [3, 9, 10, 11] 2 rfl rfl ?_
    simp only [go_sem, kmN, List.take_zero, List.filter_nil, List.foldl_nil, kE, List.map_nil]
    exact Fits.rfl
  rintro i hi KL hKL
  by_cases hlt : i < L.length
  · obtain ⟨s, hx, hm, hd⟩ := drop_at hlt
    have e1 : decide ((i : Int) < L.length) = true := by simp; omega
    have e2 : decide (i < L.length) = true := by simp; omega
    have hw := w64s i (by omega)
    have hko := koI (hLI s hm)
    have hst := kmN_step hx
    have hks := kmN_keys L i
    have hkl := kmN_len L i
    have cb := c52 s
    clear c52
    by_cases h0 : s.pa = 0
    · have h1 : (s.pa != 0) = false := by simp [h0]
      have hb : blk s = false := by simp [blk, h0]
      rw [hb, if_neg (by simp)] at hst
      have h2 : (s.pa == 0) = true := by simp [h0]
      simp only [spT, spA, List.map] at cb
      repeat' (first | refine W.seq fun K hK => ?_ | refine W.block ?_ | ((first | refine wR ?_ | refine wD ?_ | refine W.skip ?_ | refine W.exit ?_ | refine W.ret (Post.ret ?_) | refine aP ?_ | refine aF ?_ | refine aL ?_ | refine aU (hnn := by simp only [go_sem, reduceCtorEq, List.getElem?_map, hx, spA, e1, e2, hw, h1, h2, imR_len, imR_get, imL, List.length_map]) ?_ | refine aM ?_ | refine aN ?_ | refine aR ?_); simp only [go_sem, reduceCtorEq, List.getElem?_map, hx, spA, e1, e2, hw, h1, h2, imR_len, imR_get, imL, List.length_map]) | refine wT ?_ | refine wF ?_ | refine wC (fun h => ?_) (fun h => ?_) | refine iK ?_ | refine aI2 ?_ | (refine hK _ ?_; clear hK K) | clear hK K)
      refine hKL.to (i + 1) (by omega) (by omega) (Fits.fit [(0, 0), (1, 1)] [3, 9, 10, 11] 2 rfl rfl ?_)
      simp only [go_sem, rnEs_kE, hst]
      exact Fits.rfl
    · have h1 : (s.pa != 0) = true := by simp [h0]
      have h2 : (s.pa == 0) = false := by simp [h0]
      by_cases h3 : s.kd = 5
      · have hb : blk s = false := by simp [blk, h3]
        have h4 : (s.kd != 5) = false := by simp [h3]
        rw [hb, if_neg (by simp)] at hst
        rw [h4] at cb
        simp only [spT, spA, List.map] at cb
        repeat' (first | refine W.seq fun K hK => ?_ | refine W.block ?_ | ((first | refine wR ?_ | refine wD ?_ | refine W.skip ?_ | refine W.exit ?_ | refine W.ret (Post.ret ?_) | refine aP ?_ | refine aF ?_ | refine aL ?_ | refine aU (hnn := by simp only [go_sem, reduceCtorEq, List.getElem?_map, hx, spA, e1, e2, hw, h1, h2, imR_len, imR_get, imL, List.length_map]) ?_ | refine aM ?_ | refine aN ?_ | refine aR ?_); simp only [go_sem, reduceCtorEq, List.getElem?_map, hx, spA, e1, e2, hw, h1, h2, imR_len, imR_get, imL, List.length_map]) | refine wT ?_ | refine wF ?_ | refine wC (fun h => ?_) (fun h => ?_) | refine iK ?_ | refine aI2 ?_ | (refine hK _ ?_; clear hK K) | clear hK K)
        refine hKL.to (i + 1) (by omega) (by omega) (Fits.fit [(0, 0), (1, 1)] [3, 9, 10, 11] 2 rfl rfl ?_)
        simp only [go_sem, rnEs_kE, hst]
        exact Fits.rfl
      · have hb : blk s = true := by simp [blk, h3, h0]
        have h4 : (s.kd != 5) = true := by simp [h3]
        rw [hb, if_pos rfl] at hst
        rw [h4] at cb
        simp only [spT, spA, List.map] at cb
        obtain ⟨m1, hm1⟩ : ∃ m, m = kmN L (i + 1) := ⟨_, rfl⟩
        rw [← hm1] at hst
        generalize kmN L i = m at *
        repeat' (first | refine W.stop (id := 6) ?_ | refine W.seq fun K hK => ?_ | refine W.block ?_ | ((first | refine wR ?_ | refine wD ?_ | refine W.skip ?_ | refine W.exit ?_ | refine W.ret (Post.ret ?_) | refine aP ?_ | refine aF ?_ | refine aL ?_ | refine aU (hnn := by simp only [go_sem, reduceCtorEq, List.getElem?_map, hx, spA, e1, e2, hw, h1, h2, imR_len, imR_get, imL, List.length_map]) ?_ | refine aM ?_ | refine aN ?_ | refine aR ?_); simp only [go_sem, reduceCtorEq, List.getElem?_map, hx, spA, e1, e2, hw, h1, h2, imR_len, imR_get, imL, List.length_map]) | refine wT ?_ | refine wF ?_ | refine wC (fun h => ?_) (fun h => ?_) | refine iK ?_ | refine aI2 ?_ | (refine hK _ ?_; clear hK K) | clear hK K)
        refine Stop.out ?_
        refine W.fits (s' := { t := [(3, .c (.mp 0)), (5, .c (.ptr 2 0)), (9, .c (.ref 1)), (10, ft (.int .i64 L.length)), (11, ft (.int .i64 (i : Nat)))], h := [(0, .map 3 (kE m)), (1, .row 36 (imR (L.map spA))), (2, .box 36 ((spA s).map .im))], nx := 3, ex := [], nt := 34 }) ?_ ?_
        · refine Fits.fit [(0, 0), (1, 1), (5, 2)] [3, 5, 9, 10, 11] 3 rfl rfl ?_
          simp only [go_sem, rnEs_kE]
          exact Fits.rfl
        by_cases hex : ∃ y ∈ m, y.1 = s.pa
        · obtain ⟨y, hym, hye⟩ := hex
          obtain ⟨j, hj⟩ := List.getElem?_of_mem hym
          have hat := putK_at hks hj hye
          have hei := kE_get hj
          rw [hye] at hei
          have hyl := hkl y hym
          have hget := fun c => mget_sE (c := c) (kE_nodup hks) hei
          have hput := fun c d => mput_sE (c := c) (d := d) (kE_nodup hks) hei
          have hfin := kE_set hj (y.2 ++ [s])
          rw [hat] at hst
          simp only [spA, List.map]
          refine W.fits (Fits.unf 0 j 0 200 (c := .orow 36 (y.2.map spA)) rfl rfl (by simp only [go_sem, hei]) rfl rfl Fits.rfl) ?_
          simp only [go_sem]
          repeat' (first | refine W.seq fun K hK => ?_ | refine W.block ?_ | ((first | refine wR ?_ | refine wD ?_ | refine W.skip ?_ | refine W.exit ?_ | refine W.ret (Post.ret ?_) | refine aP ?_ | refine aF ?_ | refine aL ?_ | refine aU (hnn := by simp only [go_sem, reduceCtorEq, hget, hput, hw, imR_len, imL, List.length_map, spA]) ?_ | refine aM ?_ | refine aN ?_ | refine aR ?_); simp only [go_sem, reduceCtorEq, hget, hput, hw, imR_len, imL, List.length_map, spA]) | refine wT ?_ | refine wF ?_ | refine wC (fun h => ?_) (fun h => ?_) | refine iK ?_ | refine aI2 ?_ | (refine hK _ ?_; clear hK K) | clear hK K)
          refine hKL.to (i + 1) (by omega) (by omega) ?_
          have hrow : imR (List.map spA y.2) ++ [(spA s).map .im] = imR ((y.2 ++ [s]).map spA) := (snocS y.2 s).symm
          simp only [spA, List.map] at hrow
          simp only [hrow]
          refine Fits.fold 0 j 0 210 (.orow 36 ((y.2 ++ [s]).map spA)) rfl rfl rfl (by simp only [go_sem, Go.Exe.setE_set _ hei, List.getElem?_set_self (List.getElem?_eq_some_iff.1 hei).1]) (by decide) ?_
          refine Fits.fit [(0, 0), (1, 1)] [3, 9, 10, 11] 2 rfl rfl ?_
          simp only [go_sem, sE_sE, hfin, ← hst, rnEs_kE, hm1]
          exact Fits.rfl
        · have hno : ∀ y ∈ m, y.1 ≠ s.pa := fun y hy e => hex ⟨y, hy, e⟩
          rw [putK_none hno] at hst
          have hget : mget (Value.int .i64 s.pa) (kE m) = none := mget_none (kE_no hno)
          have hput : ∀ y, mput (Value.int .i64 s.pa) y (kE m) = kE m ++ [(Value.int .i64 s.pa, y)] := fun y => mput_none (kE_no hno)
          have hfin := kE_snoc m s.pa 12 [s]
          simp only [List.map] at hfin
          repeat' (first | refine W.seq fun K hK => ?_ | refine W.block ?_ | ((first | refine wR ?_ | refine wD ?_ | refine W.skip ?_ | refine W.exit ?_ | refine W.ret (Post.ret ?_) | refine aP ?_ | refine aF ?_ | refine aL ?_ | refine aU (hnn := by simp only [go_sem, reduceCtorEq, hget, hput, hw, imR_len, imL, List.length_map, spA]) ?_ | refine aM ?_ | refine aN ?_ | refine aR ?_); simp only [go_sem, reduceCtorEq, hget, hput, hw, imR_len, imL, List.length_map, spA]) | refine wT ?_ | refine wF ?_ | refine wC (fun h => ?_) (fun h => ?_) | refine iK ?_ | refine aI2 ?_ | (refine hK _ ?_; clear hK K) | clear hK K)
          refine hKL.to (i + 1) (by omega) (by omega) ?_
          refine Fits.fold 0 m.length 0 12 (.orow 36 ([s].map spA)) rfl rfl rfl (by simp [Obj.slot, kE, refCell]) (by decide) ?_
          simp only [go_sem, hfin]
          refine Fits.fit [(0, 0), (1, 1)] [3, 9, 10, 11] 2 rfl rfl ?_
          simp only [go_sem, ← hst, rnEs_kE, hm1]
          exact Fits.rfl
  · obtain rfl : i = L.length := by omega
    have e1 : decide ((L.length : Int) < L.length) = false := by simp
    clear hKL
    repeat' (first | refine W.seq fun K hK => ?_ | refine W.block ?_ | ((first | refine wR ?_ | refine wD ?_ | refine W.skip ?_ | refine W.exit ?_ | refine W.ret (Post.ret ?_) | refine aP ?_ | refine aF ?_ | refine aL ?_ | refine aU (hnn := by simp only [go_sem, reduceCtorEq, e1]) ?_ | refine aM ?_ | refine aN ?_ | refine aR ?_); simp only [go_sem, reduceCtorEq, e1]) | refine wT ?_ | refine wF ?_ | refine wC (fun h => ?_) (fun h => ?_) | refine iK ?_ | refine aI2 ?_ | (refine hK _ ?_; clear hK K) | clear hK K)
    refine W.ret (PostG.ret (Fits.fit [(0, 0)] [2] 1 rfl rfl Fits.rfl) rfl rfl ?_)
    simp only [St.r, go_sem, rnEs_kE]
/-! ### the order of the children -/
def cmSt (v : List Of) (a b : Spn) : Int := cmpI (atV v a false) (atV v b false)
theorem cmSt_lt {v : List Of} {a b : Spn} : cmSt v a b < 0 ↔ atV v a false < atV v b false := by unfold cmSt cmpI; split <;> (try split) <;> omega
theorem cmSt_ord (v : List Of) (l : List Spn) : OrdOn (cmSt v) l where
  irrefl x _ := by rw [cmSt_lt]; omega
  trans x _ y _ z _ h1 h2 := by rw [cmSt_lt] at *; omega
  ntrans x _ y _ z _ h1 h2 := by rw [cmSt_lt] at *; omega
theorem self1_c (v : List Of) (a b : Spn) (ha : I64 a.clk) (hb : I64 b.clk) : PCall Tryz.prog 54 [spT a, spT b, .c (.im (.pt [.mp 3 (ofEA (offM v))]))] (ft (.int .i64 (cmSt v a b))) := by
  have ca := at_c a false v ha
  have cb := at_c b false v hb
  have cc := cmpCompareI_c (IntKind.i64.wrap (atS a false - offK v a.clk)) (IntKind.i64.wrap (atS b false - offK v b.clk))
  simp only [spT, spA, List.map, ofmT] at ca cb ⊢
  unfold cmSt atV
  generalize cmpI (IntKind.i64.wrap (atS a false - offK v a.clk)) (IntKind.i64.wrap (atS b false - offK v b.clk)) = z at *
  refine PCall.intro (nt := 13) (rs := [.tmp 5]) Tryz.func54 rfl ⟨by kernel_rfl, by kernel_rfl, by kernel_rfl⟩ (by simp) ?_
  rintro ⟨P, w0, ok0, may, np, pblk⟩ rfl rfl
  repeat' (first | refine W.seq fun K hK => ?_ | refine W.block ?_ | ((first | refine wR ?_ | refine wD ?_ | refine W.skip ?_ | refine W.exit ?_ | refine W.ret (Post.ret ?_) | refine aP ?_ | refine aF ?_); simp only [go_sem, reduceCtorEq]) | refine wT ?_ | refine wF ?_ | refine wC (fun h => ?_) (fun h => ?_) | refine iK ?_ | refine aI2 ?_ | (refine hK _ ?_; clear hK K) | clear hK K)
end Go.Proofs.YtaaflhmfhnfjhaaGreat
namespace Go.Proofs.YtaaflhmfhnfjhaaGreat
open Go.RowKit Go.Exe
/-! ### the law of Self: the sweep over the children counts the free ints -/
def swpF (b : Int) (x : Int × Int) (c : Int × Int) : Int × Int := (if c.1 > x.2 then x.1 + max 0 (min c.1 b - x.2) else x.1, max x.2 c.2)
theorem cntI2_all (P : Int → Bool) (x y : Int) (h : ∀ τ, x ≤ τ → τ < y → P τ = true) : cntI2 P x y = (y - x).toNat := cntZ_all P x _ fun j hj => h _ (by omega) (by omega)
theorem cntI2_none (P : Int → Bool) (x y : Int) (h : ∀ τ, x ≤ τ → τ < y → P τ = false) : cntI2 P x y = 0 := cntZ_none P x _ fun j hj => h _ (by omega) (by omega)
theorem swp_law {a b : Int} (hab : a ≤ b) {all : List (Int × Int)} (hse : ∀ k ∈ all, k.1 ≤ k.2) {P : Int → Bool} (hP : ∀ τ, P τ = true ↔ ∀ k ∈ all, ¬ (k.1 ≤ τ ∧ τ < k.2)) :
    ∀ (rest pre : List (Int × Int)) (n f : Int), rest.Pairwise (fun x y => x.1 ≤ y.1) → (∀ k, k ∈ all ↔ k ∈ pre ∨ k ∈ rest) → (∀ k ∈ pre, k.2 ≤ f) → a ≤ f → n = (cntI2 P a (min f b) : Nat) →
      (rest.foldl (swpF b) (n, f)).1 + max 0 (b - (rest.foldl (swpF b) (n, f)).2) = (cntI2 P a b : Nat)
  | [], pre, n, f, _, hm, hpre, haf, hn => by
    simp only [List.foldl_nil]
    rw [cntI2_add P (show a ≤ min f b by omega) (show min f b ≤ b by omega), cntI2_all P (min f b) b fun τ h1 h2 => (hP τ).2 fun k hk hx => by
      rcases (hm k).1 hk with h | h
      · have := hpre k h; omega
      · simp at h]
    omega
  | c :: rest, pre, n, f, hs, hm, hpre, haf, hn => by
    obtain ⟨hs1, hs2⟩ := List.pairwise_cons.1 hs
    have hc : c ∈ all := (hm c).2 (.inr (by simp))
    have hce := hse c hc
    rw [List.foldl_cons]
    refine swp_law hab hse hP rest (c :: pre) _ _ hs2 (fun k => ?_) (fun k hk => ?_) ?_ ?_
    · rw [hm k, List.mem_cons, List.mem_cons]
      constructor
      · rintro (h | h | h)
        · exact .inl (.inr h)
        · exact .inl (.inl h)
        · exact .inr h
      · rintro ((h | h) | h)
        · exact .inr (.inl h)
        · exact .inl h
        · exact .inr (.inr h)
    · rcases List.mem_cons.1 hk with rfl | hk
      · omega
      · have := hpre k hk; omega
    · omega
    · have hrun : ∀ τ, c.1 ≤ τ → τ < c.2 → P τ = false := fun τ h1 h2 => by
        rw [Bool.eq_false_iff]
        intro h3
        exact (hP τ).1 h3 c hc ⟨h1, h2⟩
      by_cases hlt : c.1 > f
      · rw [if_pos hlt]
        rw [cntI2_add P (show a ≤ min f b by omega) (show min f b ≤ min (max f c.2) b by omega), cntI2_add P (show min f b ≤ min c.1 b by omega) (show min c.1 b ≤ min (max f c.2) b by omega)]
        rw [cntI2_all P (min f b) (min c.1 b) fun τ h1 h2 => (hP τ).2 fun k hk hx => by
          rcases (hm k).1 hk with h | h
          · have := hpre k h; omega
          · rcases List.mem_cons.1 h with rfl | h
            · omega
            · have := hs1 k h; omega]
        rw [cntI2_none P (min c.1 b) (min (max f c.2) b) fun τ h1 h2 => hrun τ (by omega) (by omega)]
        omega
      · rw [if_neg hlt]
        rw [cntI2_add P (show a ≤ min f b by omega) (show min f b ≤ min (max f c.2) b by omega)]
        rw [cntI2_none P (min f b) (min (max f c.2) b) fun τ h1 h2 => hrun τ (by omega) (by omega)]
        omega
def tmP (v : List Of) (k : Spn) : Int × Int := (atV v k false, atV v k true)
/-- What the sweep finds, over the children in any order of their starts. -/
theorem Trn.swp {l L : List Spn} {tr : Int} (h : Trn l L tr) {v : List Of} (hn : (v.map (·.1)).Nodup) {s : Spn} (hs : s ∈ l) (hse : ∀ z ∈ l, timM l v (evOf z false) ≤ timM l v (evOf z true))
    {zs : List Spn} (hz : zs.Perm (kidF (kidM l) s.id)) (hzs : zs.Pairwise fun a b => ¬ cmSt v b a < 0) :
    ((zs.map (tmP v)).foldl (swpF (atV v s true)) (0, atV v s false)).1 + max 0 (atV v s true - ((zs.map (tmP v)).foldl (swpF (atV v s true)) (0, atV v s false)).2) = (cntI2 (freeB l v s.id) (timM l v (evOf s false)) (timM l v (evOf s true)) : Nat) := by
  have ht : ∀ z ∈ l, ∀ e, timM l v (evOf z e) = atV v z e := fun z hz e => by rw [timM_is v h.ndl hz e, atV, off_eq hn]
  rw [ht s hs, ht s hs]
  have hmem : ∀ z, z ∈ zs ↔ z ∈ l ∧ z.pa = s.id ∧ z.kd ≠ 5 := fun z => by
    rw [hz.mem_iff, h.kid, List.mem_filter, ← h.perm.mem_iff]
    have h0 := h.pos s (h.perm.mem_iff.2 hs)
    simp only [blk, Bool.and_eq_true, bne_iff_ne, beq_iff_eq]
    constructor
    · rintro ⟨h1, ⟨_, h2⟩, h3⟩; exact ⟨h1, h3, h2⟩
    · rintro ⟨h1, h2, h3⟩; exact ⟨h1, ⟨by rw [h2]; exact h0, h3⟩, h2⟩
  refine swp_law (all := zs.map (tmP v)) (by have := hse s hs; rw [ht s hs, ht s hs] at this; exact this) (fun k hk => ?_) (fun τ => ?_) (zs.map (tmP v)) [] 0 (atV v s false) ?_ (fun k => by simp) (by simp) (Int.le_refl _) ?_
  · obtain ⟨z, hz1, rfl⟩ := List.mem_map.1 hk
    have hzl := ((hmem z).1 hz1).1
    have := hse z hzl
    rw [ht z hzl, ht z hzl] at this
    exact this
  · unfold freeB
    rw [Bool.not_eq_true', List.any_eq_false]
    constructor
    · intro hall k hk hx
      obtain ⟨z, hz1, rfl⟩ := List.mem_map.1 hk
      obtain ⟨h1, h2, h3⟩ := (hmem z).1 hz1
      refine hall z h1 ?_
      unfold runS
      rw [ht z h1, ht z h1]
      simp only [Bool.and_eq_true, decide_eq_true_eq, beq_iff_eq, bne_iff_ne]
      exact ⟨⟨⟨h2, h3⟩, hx.1⟩, hx.2⟩
    · intro hall z hz1 hrun
      unfold runS at hrun
      rw [ht z hz1, ht z hz1] at hrun
      simp only [Bool.and_eq_true, decide_eq_true_eq, beq_iff_eq, bne_iff_ne] at hrun
      exact hall (tmP v z) (List.mem_map.2 ⟨z, (hmem z).2 ⟨hz1, hrun.1.1.1, hrun.1.1.2⟩, rfl⟩) ⟨hrun.1.2, hrun.2⟩
  · rw [List.pairwise_map]
    exact hzs.imp fun {a b} hab => by rw [cmSt_lt] at hab; show atV v a false ≤ atV v b false; omega
  · have : cntI2 (freeB l v s.id) (atV v s false) (min (atV v s false) (atV v s true)) = 0 := cntI2_none _ _ _ fun τ h1 h2 => by omega
    rw [this]; rfl
end Go.Proofs.YtaaflhmfhnfjhaaGreat
namespace Go.Proofs.YtaaflhmfhnfjhaaGreat
open Go.RowKit Go.Exe
/-! ### Self -/
abbrev slfT (n e : Int) : TV := .t [(false, [fl (.int .i64 n)]), (false, [fl (.int .i64 e)])]
theorem getK_at {m : KM} (hk : (m.map (·.1)).Nodup) {y : Int × List Spn} (h : y ∈ m) {k : Int} (e : y.1 = k) : getK m k = some y.2 := by
  induction m with
  | nil => cases h
  | cons z r ih =>
    rw [getK]
    rw [List.map_cons, List.nodup_cons] at hk
    rcases List.mem_cons.1 h with rfl | h
    · rw [if_pos e]
    · rw [if_neg fun e2 => hk.1 (by rw [e2, ← e]; exact List.mem_map_of_mem h)]
      exact ih hk.2 h
theorem getK_no {m : KM} {k : Int} (h : ∀ y ∈ m, y.1 ≠ k) : getK m k = none := by
  induction m with
  | nil => rfl
  | cons z r ih =>
    rw [getK, if_neg (h z (by simp))]
    exact ih fun y hy => h y (by simp [hy])
attribute [local irreducible] W AX Run RunD AStep AOp AOpX AStB AStH AStG Fits PCall GCall PostG Post Stop
theorem self30_e (l : List Spn) (v : List Of) (id : Int) (hclk : ∀ s ∈ l, I64 s.clk) (hv : ∀ x ∈ v, I64 x.1) (h : chkE l v ≠ 0) : PCall Tryz.prog 30 [spsT l, ofsT v, ft (.int .i64 id)] (slfT 0 (chkE l v)) := by
  have c20 := check_c l v hclk hv
  have e1 : (chkE l v != 0) = true := by simp [h]
  refine PCall.intro (nt := 82) (rs := [.tmp 6, .tmp 7]) Tryz.func30 rfl ⟨by kernel_rfl, by kernel_rfl, by kernel_rfl⟩ (by simp) ?_
  rintro ⟨P, w0, ok0, may, np, pblk⟩ rfl rfl
  repeat' (first | refine W.seq fun K hK => ?_ | refine W.block ?_ | ((first | refine wR ?_ | refine wD ?_ | refine W.skip ?_ | refine W.exit ?_ | refine W.ret (Post.ret ?_) | refine aP ?_ | refine aF ?_ | refine aL ?_ | refine aU (hnn := by simp only [go_sem, reduceCtorEq, e1]) ?_ | refine aM ?_ | refine aN ?_ | refine aR ?_); simp only [go_sem, reduceCtorEq, e1]) | refine wT ?_ | refine wF ?_ | refine wC (fun h => ?_) (fun h => ?_) | refine iK ?_ | refine aI2 ?_ | (refine hK _ ?_; clear hK K) | clear hK K)
theorem self30_n (l : List Spn) (v : List Of) (id : Int) (hclk : ∀ s ∈ l, I64 s.clk) (hv : ∀ x ∈ v, I64 x.1) (h : chkE l v = 0) (hs : spId l id = none) : PCall Tryz.prog 30 [spsT l, ofsT v, ft (.int .i64 id)] (slfT 0 10) := by
  have c20 := check_c l v hclk hv
  have c40 := find_c l id
  unfold findT at c40
  rw [hs] at c40
  rw [h] at c20
  have e1 : ((0 : Int) != 0) = false := by decide
  simp only [zSpn] at c40
  refine PCall.intro (nt := 82) (rs := [.tmp 6, .tmp 7]) Tryz.func30 rfl ⟨by kernel_rfl, by kernel_rfl, by kernel_rfl⟩ (by simp) ?_
  rintro ⟨P, w0, ok0, may, np, pblk⟩ rfl rfl
  repeat' (first | refine W.seq fun K hK => ?_ | refine W.block ?_ | ((first | refine wR ?_ | refine wD ?_ | refine W.skip ?_ | refine W.exit ?_ | refine W.ret (Post.ret ?_) | refine aP ?_ | refine aF ?_ | refine aL ?_ | refine aU (hnn := by simp only [go_sem, reduceCtorEq, e1]) ?_ | refine aM ?_ | refine aN ?_ | refine aR ?_); simp only [go_sem, reduceCtorEq, e1]) | refine wT ?_ | refine wF ?_ | refine wC (fun h => ?_) (fun h => ?_) | refine iK ?_ | refine aI2 ?_ | (refine hK _ ?_; clear hK K) | clear hK K)
theorem mxI (a b : Int) : (if b > a then b else a) = max a b := by split <;> omega
theorem mnI (a b : Int) : (if b < a then b else a) = min a b := by split <;> omega
theorem swp_bnd {v : List Of} {b : Int} (hb : -10000 < b ∧ b < 10000) {l : List Spn} (hsm : ∀ z ∈ l, ∀ e, -10000 < atV v z e ∧ atV v z e < 10000) : ∀ (zs : List Spn) (x : Int × Int) (m : Nat), (∀ z ∈ zs, z ∈ l) → (0 ≤ x.1 ∧ x.1 ≤ 20000 * m ∧ -10000 < x.2 ∧ x.2 < 10000) →
    0 ≤ ((zs.map (tmP v)).foldl (swpF b) x).1 ∧ ((zs.map (tmP v)).foldl (swpF b) x).1 ≤ 20000 * (m + zs.length : Nat) ∧ -10000 < ((zs.map (tmP v)).foldl (swpF b) x).2 ∧ ((zs.map (tmP v)).foldl (swpF b) x).2 < 10000
  | [], x, m, _, h => by simpa using h
  | z :: zs, x, m, hz, h => by
    have h1 := hsm z (hz z (by simp)) false
    have h2 := hsm z (hz z (by simp)) true
    have := swp_bnd hb hsm zs (swpF b x (tmP v z)) (m + 1) (fun y hy => hz y (by simp [hy])) (by
      unfold swpF tmP
      refine ⟨?_, ?_, ?_, ?_⟩
      · dsimp only; split <;> omega
      · dsimp only; split <;> (push_cast; omega)
      · dsimp only; omega
      · dsimp only; omega)
    simp only [List.map_cons, List.foldl_cons, List.length_cons]
    rw [show m + (zs.length + 1) = m + 1 + zs.length by omega]
    exact this
theorem self30_c (c53 : SortC Tryz.prog 53 14) (d53 : SortD Tryz.prog 53 14) {l L : List Spn} {tr : Int} (hT : Trn l L tr) (v : List Of) (hv : ∀ x ∈ v, I64 x.1) (hnv : (v.map (·.1)).Nodup) (hc : chkE l v = 0) (s : Spn) (hs : s ∈ l)
    (hsm : ∀ z ∈ l, ∀ e, -10000 < atV v z e ∧ atV v z e < 10000) (hse : ∀ z ∈ l, timM l v (evOf z false) ≤ timM l v (evOf z true)) :
    PCall Tryz.prog 30 [spsT l, ofsT v, ft (.int .i64 s.id)] (slfT (cntI2 (freeB l v s.id) (timM l v (evOf s false)) (timM l v (evOf s true)) : Nat) 0) := by
  have hclk : ∀ s ∈ l, I64 s.clk := fun s hs => (hT.intl s hs).2.2.2
  have c20 := check_c l v hclk hv
  rw [hc] at c20
  have c40 := find_c l s.id
  have hsp : spId l s.id = some s := by
    cases h : spId l s.id with
    | none =>
      unfold spId at h
      rw [List.find?_eq_none] at h
      exact absurd (by simp) (h s hs)
    | some z =>
      obtain ⟨h1, h2⟩ := spId_mem h
      rw [id_eq hT.ndl h1 hs h2]
  unfold findT at c40
  rw [hsp] at c40
  have c35 := offsets_c v hv
  have c36 := fun z e (hz : z ∈ l) => at_c z e v (hclk z hz)
  have hll := hT.lenl
  have cB := blkO_c c53 l hT.ndl (fun z hz => (hT.intl z hz).2.2.1) (by omega)
  have c54 := fun x (hx : x ∈ l) y (hy : y ∈ l) => self1_c v x y (hclk x hx) (hclk y hy)
  have hkids : ∀ z ∈ kidF (kidM l) s.id, z ∈ l := fun z hz => by
    rw [hT.kid] at hz
    exact hT.perm.mem_iff.1 (List.mem_filter.1 hz).1
  have hkn := kmN_keys (srtId l) (srtId l).length
  have hko := koI (hT.intl s hs).2.1
  have hkl0 : (kidF (kidM l) s.id).length ≤ 8 := by rw [hT.kid]; have := List.length_filter_le (fun z => blk z && z.pa == s.id) L; have := hT.len; omega
  have hfin := fun zs => hT.swp (zs := zs) hnv hs hse
  have n0 : ((0 : Int) != 0) = false := by decide
  have ca := c36 s false hs
  have cb := c36 s true hs
  have ba := hsm s hs false
  have bb := hsm s hs true
  clear c53 hc hnv hv hse hT
  generalize cntI2 (freeB l v s.id) (timM l v (evOf s false)) (timM l v (evOf s true)) = cnt at *
  have hA : IntKind.i64.wrap (atS s false - offK v s.clk) = atV v s false := rfl
  have hB : IntKind.i64.wrap (atS s true - offK v s.clk) = atV v s true := rfl
  rw [hA] at ca
  rw [hB] at cb
  simp only [spT, spA, List.map, ofmT] at c40 c35 ca cb
  generalize atV v s false = a at *
  generalize atV v s true = b at *
  obtain ⟨ks, hks⟩ : ∃ ks, ks = kidF (kidM l) s.id := ⟨_, rfl⟩
  rw [← hks] at hkids hfin
  have hkl : ks.length ≤ 8 := hks ▸ hkl0
  clear hkl0
  refine PCall.intro (nt := 82) (rs := [.tmp 6, .tmp 7]) Tryz.func30 rfl ⟨by kernel_rfl, by kernel_rfl, by kernel_rfl⟩ (by simp) ?_
  rintro ⟨P, w0, ok0, may, np, pblk⟩ rfl rfl
  repeat' (first | refine W.stop (id := 9) ?_ | refine W.seq fun K hK => ?_ | refine W.block ?_ | ((first | refine wR ?_ | refine wD ?_ | refine W.skip ?_ | refine W.exit ?_ | refine W.ret (Post.ret ?_) | refine aP ?_ | refine aF ?_ | refine aL ?_ | refine aU (hnn := by simp only [go_sem, reduceCtorEq, n0]) ?_ | refine aM ?_ | refine aN ?_ | refine aR ?_); simp only [go_sem, reduceCtorEq, n0]) | refine wT ?_ | refine wF ?_ | refine wC (fun h => ?_) (fun h => ?_) | refine iK ?_ | refine aI2 ?_ | (refine hK _ ?_; clear hK K) | clear hK K)
  refine Stop.out ?_
  have hK9 : ∀ s1, Fits { P := Tryz.prog, w0 := w0, ok0 := ok0, may := may, np := 0, pblk := pblk } s1 { t := [(11, .c (.ptr 0 0)), (12, ft (.int .i64 a)), (13, ft (.int .i64 b)), (14, .c (.ref 1))], h := [(0, .box 91 [.im (.mp 3 (ofEA (offM v)))]), (1, .row 36 (imR (ks.map spA)))], nx := 2, ex := [], nt := 82 } → K s1 := by
    intro s1 hf
    refine hK _ (W.fits hf (W.fits (s' := { t := [(11, .c (.ip [.mp 3 (ofEA (offM v))])), (12, ft (.int .i64 a)), (13, ft (.int .i64 b)), (14, .c (.ref 1))], h := [(1, .row 36 (imR (ks.map spA)))], nx := 2, ex := [], nt := 82 }) (Fits.seeP 11 0 rfl rfl rfl Fits.rfl) ?_))
    clear hf hK K c20 c40 c35 cB ca cb hko
    repeat' (first | refine W.stop (id := 10) ?_ | refine W.seq fun K hK => ?_ | refine W.block ?_ | ((first | refine wR ?_ | refine wD ?_ | refine W.skip ?_ | refine W.exit ?_ | refine W.ret (Post.ret ?_) | refine aP ?_ | refine aF ?_ | refine aL ?_ | refine aU ?_ | refine aM ?_ | refine aN ?_ | refine aR ?_); simp only [go_sem, reduceCtorEq]) | refine wT ?_ | refine wF ?_ | refine wC (fun h => ?_) (fun h => ?_) | refine iK ?_ | refine aI2 ?_ | (refine hK _ ?_; clear hK K) | clear hK K)
    refine Stop.out ?_
    refine W.regE ?_
    refine ⟨rfl, OpE.ofAOp 900 (by simp [St.used]) ?_⟩
    simp only [go_sem]
    refine ⟨rfl, OpE.ofAOp 901 (by simp [St.used]) ?_⟩
    simp only [go_sem]
    refine AX.makeFnP rfl rfl rfl ?_
    simp only [go_sem]
    refine ⟨rfl, OpE.sortD spA rfl rfl rfl rfl rfl tE36 (by decide) d53 (fun x hx y hy => c54 x (hkids x hx) y (hkids y hy)) (cmSt_ord v ks) rfl fun zs hz1 hz2 => ?_⟩
    simp only [go_sem]
    refine ⟨_, Fits.fit [(1, 0)] [11, 12, 13, 14] 1 rfl rfl Fits.rfl, ?_⟩
    simp only [go_sem]
    have hfz := hfin zs hz1 hz2
    have hzl : zs.length ≤ 8 := by rw [hz1.length_eq]; exact hkl
    have hzm : ∀ z ∈ zs, z ∈ l := fun z hz => hkids z (hz1.mem_iff.1 hz)
    clear hz1 hz2 hfin c54 d53 hkids hkl
    repeat' (first | refine W.seq fun K hK => ?_ | refine W.block ?_ | ((first | refine wR ?_ | refine wD ?_ | refine W.skip ?_ | refine W.exit ?_ | refine W.ret (Post.ret ?_) | refine aP ?_ | refine aF ?_ | refine aL ?_ | refine aU (hnn := by simp only [go_sem, reduceCtorEq, imR_len, List.length_map]) ?_ | refine aM ?_ | refine aN ?_ | refine aR ?_); simp only [go_sem, reduceCtorEq, imR_len, List.length_map]) | refine wT ?_ | refine wF ?_ | refine wC (fun h => ?_) (fun h => ?_) | refine iK ?_ | refine aI2 ?_ | (refine hK _ ?_; clear hK K) | clear hK K)
    refine W.loopF (T := fun i : Nat => { t := [(11, .c (.ip [.mp 3 (ofEA (offM v))])), (12, ft (.int .i64 (((zs.take i).map (tmP v)).foldl (swpF b) (0, a)).2)), (13, ft (.int .i64 b)), (15, ft (.int .i64 (((zs.take i).map (tmP v)).foldl (swpF b) (0, a)).1)), (49, .c (.ref 0)), (50, ft (.int .i64 zs.length)), (51, ft (.int .i64 (i : Nat)))], h := [(0, .row 36 (imR (zs.map spA)))], nx := 1, ex := [], nt := 82 })
      (Inv := fun i => i ≤ zs.length) (μ := fun i => zs.length - i) (x0 := 0) ?_ (Nat.zero_le _) ?_
    · refine Fits.fit [(0, 0)] [11, 12, 13, 15, 49, 50, 51] 1 rfl rfl ?_
      simp only [go_sem, List.take_zero, List.map_nil, List.foldl_nil]
      exact Fits.rfl
    rintro i hi KL hKL
    have hbn := swp_bnd bb hsm (zs.take i) (0, a) 0 (fun z hz => hzm z (List.mem_of_mem_take hz)) ⟨Int.le_refl _, by simp, ba.1, ba.2⟩
    rw [List.length_take, Nat.min_eq_left hi] at hbn
    by_cases hlt : i < zs.length
    · obtain ⟨z, hx, hm, hd⟩ := drop_at hlt
      have e1 : decide ((i : Int) < zs.length) = true := by simp; omega
      have e2 : decide (i < zs.length) = true := by simp; omega
      have hw := w64s i (by omega)
      have hzl := hzm z hm
      have ca := c36 z false hzl
      have cb := c36 z true hzl
      have b1 := hsm z hzl false
      have b2 := hsm z hzl true
      have htk : (zs.take (i + 1)).map (tmP v) = (zs.take i).map (tmP v) ++ [tmP v z] := by rw [List.take_add_one, hx]; simp
      have hst : ((zs.take (i + 1)).map (tmP v)).foldl (swpF b) (0, a) = swpF b (((zs.take i).map (tmP v)).foldl (swpF b) (0, a)) (tmP v z) := by rw [htk, List.foldl_append]; rfl
      have hKL2 := fun (s' : St) h => hKL.to (s' := s') (i + 1) (by omega) (by omega) h
      rw [hst] at hKL2
      clear hKL hst htk hsm c36
      generalize ((zs.take i).map (tmP v)).foldl (swpF b) (0, a) = p at *
      obtain ⟨n, f⟩ := p
      simp only [tmP, swpF] at hKL2
      have hA1 : IntKind.i64.wrap (atS z false - offK v z.clk) = atV v z false := rfl
      have hB1 : IntKind.i64.wrap (atS z true - offK v z.clk) = atV v z true := rfl
      rw [hA1] at ca
      rw [hB1] at cb
      simp only [spT, spA, List.map, ofmT] at ca cb
      clear hA1 hB1 hfz
      obtain ⟨ta, hta⟩ : ∃ x, x = atV v z false := ⟨_, rfl⟩
      obtain ⟨tb, htb⟩ : ∃ x, x = atV v z true := ⟨_, rfl⟩
      rw [← hta] at ca b1
      rw [← htb] at cb b2
      simp only [← hta, ← htb] at hKL2
      clear hta htb
      dsimp only at hbn
      by_cases h1 : ta > f
      · rw [if_pos h1] at hKL2
        have e3 : decide (f < ta) = true := by simp; omega
        have w1 := w64 (n := min ta b - f) (by omega) (by omega)
        have w2 := w64 (n := n + max 0 (min ta b - f)) (by omega) (by omega)
        repeat' (first | refine W.seq fun K hK => ?_ | refine W.block ?_ | ((first | refine wR ?_ | refine wD ?_ | refine W.skip ?_ | refine W.exit ?_ | refine W.ret (Post.ret ?_) | refine aP ?_ | refine aF ?_ | refine aL ?_ | refine aU (hnn := by simp only [go_sem, reduceCtorEq, List.getElem?_map, hx, spA, e1, e2, e3, hw, imR_len, imR_get, imL, List.length_map, mxI, mnI, w1, w2]) ?_ | refine aM ?_ | refine aN ?_ | refine aR ?_); simp only [go_sem, reduceCtorEq, List.getElem?_map, hx, spA, e1, e2, e3, hw, imR_len, imR_get, imL, List.length_map, mxI, mnI, w1, w2]) | refine wT ?_ | refine wF ?_ | refine wC (fun h => ?_) (fun h => ?_) | refine iK ?_ | refine aI2 ?_ | (refine hK _ ?_; clear hK K) | clear hK K)
        refine hKL2 _ (Fits.fit [(0, 0)] [11, 12, 13, 15, 49, 50, 51] 1 rfl rfl ?_)
        simp only [go_sem]
        exact Fits.rfl
      · rw [if_neg h1] at hKL2
        have e3 : decide (f < ta) = false := by simp; omega
        repeat' (first | refine W.seq fun K hK => ?_ | refine W.block ?_ | ((first | refine wR ?_ | refine wD ?_ | refine W.skip ?_ | refine W.exit ?_ | refine W.ret (Post.ret ?_) | refine aP ?_ | refine aF ?_ | refine aL ?_ | refine aU (hnn := by simp only [go_sem, reduceCtorEq, List.getElem?_map, hx, spA, e1, e2, e3, hw, imR_len, imR_get, imL, List.length_map, mxI, mnI]) ?_ | refine aM ?_ | refine aN ?_ | refine aR ?_); simp only [go_sem, reduceCtorEq, List.getElem?_map, hx, spA, e1, e2, e3, hw, imR_len, imR_get, imL, List.length_map, mxI, mnI]) | refine wT ?_ | refine wF ?_ | refine wC (fun h => ?_) (fun h => ?_) | refine iK ?_ | refine aI2 ?_ | (refine hK _ ?_; clear hK K) | clear hK K)
        refine hKL2 _ (Fits.fit [(0, 0)] [11, 12, 13, 15, 49, 50, 51] 1 rfl rfl ?_)
        simp only [go_sem]
        exact Fits.rfl
    · obtain rfl : i = zs.length := by omega
      have e1 : decide ((zs.length : Int) < zs.length) = false := by simp
      rw [List.take_length] at hbn ⊢
      clear hKL
      generalize (zs.map (tmP v)).foldl (swpF b) (0, a) = p at *
      have w1 := w64 (n := b - p.2) (by omega) (by omega)
      have w2 := w64 (n := p.1 + max 0 (b - p.2)) (by omega) (by omega)
      repeat' (first | refine W.seq fun K hK => ?_ | refine W.block ?_ | ((first | refine wR ?_ | refine wD ?_ | refine W.skip ?_ | refine W.exit ?_ | refine W.ret (Post.ret ?_) | refine aP ?_ | refine aF ?_ | refine aL ?_ | refine aU (hnn := by simp only [go_sem, reduceCtorEq, e1, w1, w2, mxI]) ?_ | refine aM ?_ | refine aN ?_ | refine aR ?_); simp only [go_sem, reduceCtorEq, e1, w1, w2, mxI]) | refine wT ?_ | refine wF ?_ | refine wC (fun h => ?_) (fun h => ?_) | refine iK ?_ | refine aI2 ?_ | (refine hK _ ?_; clear hK K) | clear hK K)
      rw [hfz]
  clear hfin c54 d53 hsm hkids hkl hsp c36
  refine W.fits (s' := { t := [(0, spsT l), (2, ft (.int .i64 s.id)), (11, .c (.ptr 0 0)), (12, ft (.int .i64 a)), (13, ft (.int .i64 b))], h := [(0, .box 91 [.im (.mp 3 (ofEA (offM v)))])], nx := 1, ex := [], nt := 82 }) ?_ ?_
  · refine Fits.fit [(21, 0)] [0, 2, 11, 12, 13] 1 rfl rfl ?_
    simp only [go_sem, hA, hB]
    exact Fits.rfl
  generalize hkm : kidM l = m at *
  have hkk : (m.map (·.1)).Nodup := hkm ▸ hkn
  refine W.regE ?_
  refine ⟨rfl, OpE.ofAOp 900 (by simp [St.used]) ?_⟩
  simp only [go_sem]
  refine ⟨rfl, OpE.ofAOp 902 (by simp [St.used]) ?_⟩
  simp only [go_sem]
  refine AX.gcall [] rfl rfl (cB) (by simp only [go_sem, reduceCtorEq]) (by simp only [go_sem, reduceCtorEq]) rfl rfl (by simp only [go_sem, Obj.owns]) rfl (by simp only [go_sem, Obj.owns]) rfl rfl ?_
  simp only [go_sem, reduceCtorEq]
  refine ⟨rfl, OpE.ofAOp 903 (by simp [St.used]) ?_⟩
  simp only [go_sem]
  refine RunE.fits (s' := { t := [(11, .c (.ptr 0 0)), (12, ft (.int .i64 a)), (13, ft (.int .i64 b)), (43, .c (.mp 1)), (44, ft (.int .i64 s.id))], h := [(0, .box 91 [.im (.mp 3 (ofEA (offM v)))]), (1, .map 3 (kE m))], nx := 2, ex := [], nt := 82 }) ?_ ?_
  · refine Fits.fit [(0, 0), (902, 1)] [11, 12, 13, 43, 44] 2 rfl rfl ?_
    simp only [go_sem, rnEs_kE]
    exact Fits.rfl
  by_cases hex : ∃ y ∈ m, y.1 = s.id
  · obtain ⟨y, hym, hye⟩ := hex
    obtain ⟨j, hj⟩ := List.getElem?_of_mem hym
    have hei := kE_get hj
    rw [hye] at hei
    have hget := fun c => mget_sE (c := c) (kE_nodup hkk) hei
    have hky : ks = y.2 := by rw [hks, kidF, getK_at hkk hym hye]; rfl
    refine RunE.fits (Fits.unf 1 j 0 1000 (c := .orow 36 (y.2.map spA)) rfl rfl (by simp only [go_sem, hei]) rfl rfl Fits.rfl) ?_
    simp only [go_sem]
    refine ⟨rfl, OpE.ofAOp 1001 (by simp [St.used]) ?_⟩
    simp only [go_sem]
    refine aL ?_
    simp only [go_sem, reduceCtorEq, hget]
    refine ⟨rfl, OpE.ofAOp 1002 (by simp [St.used]) ?_⟩
    simp only [go_sem]
    refine ⟨_, Fits.rfl, ?_⟩
    refine hK9 _ ?_
    refine Fits.fit [(0, 0), (1000, 1)] [11, 12, 13, 14] 2 rfl rfl ?_
    simp only [go_sem, hky]
    exact Fits.rfl
  · have hno : ∀ y ∈ m, y.1 ≠ s.id := fun y hy e => hex ⟨y, hy, e⟩
    have hget : mget (Value.int .i64 s.id) (kE m) = none := mget_none (kE_no hno)
    have hky : ks = [] := by rw [hks, kidF, getK_no hno]; rfl
    refine ⟨rfl, OpE.ofAOp 1001 (by simp [St.used]) ?_⟩
    simp only [go_sem]
    refine aL ?_
    simp only [go_sem, reduceCtorEq, hget]
    refine ⟨rfl, OpE.ofAOp 1002 (by simp [St.used]) ?_⟩
    simp only [go_sem]
    refine ⟨_, Fits.adopt 14 900 36 rfl rfl rfl tE36 rfl Fits.rfl, ?_⟩
    refine hK9 _ ?_
    refine Fits.fit [(0, 0), (900, 1)] [11, 12, 13, 14] 2 rfl rfl ?_
    simp only [go_sem, hky]
    exact Fits.rfl
end Go.Proofs.YtaaflhmfhnfjhaaGreat
namespace Go.Proofs.YtaaflhmfhnfjhaaGreat
open Go.RowKit Go.Exe
/-! ### CriticalSelf -/
theorem self_nil (l : List Spn) (id : Int) (h : 0 < l.length) (hl : ∀ s ∈ l, I64 s.clk) : PCall Tryz.prog 30 [spsT l, ft (.slice none 0 0), ft (.int .i64 id)] (slfT 0 34) := by
  have c := self30_e l [] id hl (by simp) (by rw [chk_nil h]; decide)
  rw [chk_nil h] at c
  exact PCall.conv (args' := [spsT l, ofsT [], ft (.int .i64 id)]) c (Al.cons TLe.rfl (Al.cons (TLe.c CLe.nil) (Al.cons TLe.rfl Al.nil))) TLe.rfl
attribute [local irreducible] W AX Run RunD AStep AOp AOpX AStB AStH AStG Fits PCall GCall PostG Post Stop
theorem selfLaw_c (c53 : SortC Tryz.prog 53 14) (d53 : SortD Tryz.prog 53 14) (c71 : SortI Tryz.prog 71) (g85 : GrowC Tryz.prog 85 3 1 8) (s : Sto) (hsB : s.okB) (id : Int) (hid : I64 id) : PCall Tryz.prog 10 [stoT s, ft (.int .i64 id)] (ft (.bool true)) := by
  have c11 := known_c c53 c71 g85
  rcases turned_all s hsB with c12 | ⟨t, hs, ht, c12⟩
  · have c12 := c12 0 (by omega)
    clear c53 d53 c71 g85 hsB
    simp only [stoT, stoA, turnR, List.map, Option.map_none, Option.getD_none, Option.isSome_none] at c12 ⊢
    refine PCall.intro (nt := 89) (rs := [.tmp 4]) Tryz.func10 rfl ⟨by kernel_rfl, by kernel_rfl, by kernel_rfl⟩ (by simp) ?_
    rintro ⟨P, w0, ok0, may, np, pblk⟩ rfl rfl
    repeat' (first | refine W.seq fun K hK => ?_ | refine W.block ?_ | ((first | refine wR ?_ | refine wD ?_ | refine W.skip ?_ | refine W.exit ?_ | refine W.ret (Post.ret ?_) | refine aP ?_ | refine aF ?_); simp only [go_sem, reduceCtorEq]) | refine wT ?_ | refine wF ?_ | refine wC (fun h => ?_) (fun h => ?_) | refine iK ?_ | refine aI2 ?_ | (refine hK _ ?_; clear hK K) | clear hK K)
  · have hT := story_trn hs ht 0
    have hc := story_chk ht 0
    have hvI := offT_I s
    have hvN := offT_nd s
    have h8 := (hs.1 t (List.mem_of_getElem? (turnT_is ht).2.1)).2.2.2
    have k12 := c12 0 (by omega)
    have hl0 : 0 < (rotL (trcS s 0 t) 0).length := by
      rw [← (rotL_perm _ 0).length_eq, trcS_len]; exact (turnT_is ht).2.2
    have hsm : ∀ x ∈ evsL (trcS s 0 t), -2000 < timM (trcS s 0 t) (offT s 4) x ∧ timM (trcS s 0 t) (offT s 4) x < 4000 := fun x hx => tim_small h8 hx
    have hse : ∀ z ∈ trcS s 0 t, timM (trcS s 0 t) (offT s 4) (evOf z false) ≤ timM (trcS s 0 t) (offT s 4) (evOf z true) := fun z hz => by
      obtain ⟨k, _, _, hk, h1⟩ := tim_is h8 hz false
      obtain ⟨k', _, _, hk', h2⟩ := tim_is h8 hz true
      have hkk : k' = k := by rw [hk] at hk'; omega
      subst hkk
      rw [h1, h2]
      have := story_st_en hz
      show z.st - _ ≤ z.en - _
      omega
    clear c12 hsB
    generalize rotL (trcS s 0 t) 0 = l at *
    generalize trcS s 0 t = L at *
    generalize offT s 4 = v at *
    have htl : ∀ z ∈ l, ∀ e, timM l v (evOf z e) = timM L v (evOf z e) := fun z hz e => hT.timLl v (evs_mem (hT.perm.mem_iff.2 hz) e)
    have hsml : ∀ z ∈ l, ∀ e, -2000 < timM l v (evOf z e) ∧ timM l v (evOf z e) < 4000 := fun z hz e => by rw [htl z hz e]; exact hsm _ (evs_mem (hT.perm.mem_iff.2 hz) e)
    have hsel : ∀ z ∈ l, timM l v (evOf z false) ≤ timM l v (evOf z true) := fun z hz => by rw [htl z hz, htl z hz]; exact hse z (hT.perm.mem_iff.2 hz)
    have hsma : ∀ z ∈ l, ∀ e, -10000 < atV v z e ∧ atV v z e < 10000 := fun z hz e => by
      have h1 := hsml z hz e
      rw [timM_is v hT.ndl hz e] at h1
      rw [atV, off_eq hvN]
      omega
    have c30 := fun z hz => self30_c c53 d53 hT v hvI hvN hc z hz hsma hsel
    have c29 : ∀ z ∈ l, PCall Tryz.prog 29 [spsT l, ofsT v, ft (.int .i64 z.id)] (ft (.int .i64 (cntI2 (freeB l v z.id) (timM l v (evOf z false)) (timM l v (evOf z true)) : Nat))) := fun z hzl => by
      cases hj : l.findIdx? (fun x => x.id == z.id) with
      | none =>
        rw [List.findIdx?_eq_none_iff] at hj
        have := hj z hzl
        simp at this
      | some j =>
        obtain ⟨h4, h5, _⟩ := List.findIdx?_eq_some_iff_getElem.1 hj
        have he := id_eq hT.ndl (List.getElem_mem h4) hzl (by simpa using h5)
        have hk2 := List.getElem?_eq_getElem h4
        rw [he] at hk2
        have b1 := hsml z hzl false
        have b2 := hsml z hzl true
        exact self29_c l v z.id j hj z hk2 (by omega) (by omega)
    have c18 := at18_c l id
    have hll := hT.lenl
    have hclk : ∀ s ∈ l, I64 s.clk := fun s hs => (hT.intl s hs).2.2.2
    have cnil := self_nil l id hl0 hclk
    have cid : (atI l id < 0 ∧ PCall Tryz.prog 30 [spsT l, ofsT v, ft (.int .i64 id)] (slfT 0 10)) ∨ (0 ≤ atI l id ∧ ∃ n : Int, PCall Tryz.prog 30 [spsT l, ofsT v, ft (.int .i64 id)] (slfT n 0)) := by
      unfold atI
      cases hj : l.findIdx? (fun x => x.id == id) with
      | none =>
        rw [List.findIdx?_eq_none_iff] at hj
        refine .inl ⟨by decide, self30_n l v id hclk hvI hc ?_⟩
        unfold spId
        rw [List.find?_eq_none]
        intro x hx
        rw [hj x hx]
        decide
      | some j =>
        obtain ⟨h4, h5, _⟩ := List.findIdx?_eq_some_iff_getElem.1 hj
        have h6 : l[j].id = id := by simpa using h5
        exact .inr ⟨by simp, _, h6 ▸ c30 _ (List.getElem_mem h4)⟩
    have n0 : ((0 : Int) != 0) = false := by decide
    clear c53 d53 c71 g85 hc hvI hvN hse hT hsm hsml hsel hsma htl hclk
    simp only [stoT, stoA, turnR, List.map, Option.map_some, Option.getD_some, Option.isSome_some] at k12 ⊢
    refine PCall.intro (nt := 89) (rs := [.tmp 4]) Tryz.func10 rfl ⟨by kernel_rfl, by kernel_rfl, by kernel_rfl⟩ (by simp) ?_
    rintro ⟨P, w0, ok0, may, np, pblk⟩ rfl rfl
    repeat' (first | refine W.stop (id := 6) ?_ | refine W.seq fun K hK => ?_ | refine W.block ?_ | ((first | refine wR ?_ | refine wD ?_ | refine W.skip ?_ | refine W.exit ?_ | refine W.ret (Post.ret ?_) | refine aP ?_ | refine aF ?_); simp only [go_sem, reduceCtorEq]) | refine wT ?_ | refine wF ?_ | refine wC (fun h => ?_) (fun h => ?_) | refine iK ?_ | refine aI2 ?_ | (refine hK _ ?_; clear hK K) | clear hK K)
    refine Stop.out ?_
    refine W.fits (s' := { t := [(1, ft (.int .i64 id)), (5, spsT l), (6, ofsT v)], h := [], nx := 0, ex := [], nt := 89 }) ?_ ?_
    · refine Fits.fit [] [1, 5, 6] 0 rfl rfl ?_
      simp only [go_sem]
      exact Fits.rfl
    clear c11 k12
    repeat' (first | refine W.seq fun K hK => ?_ | refine W.block ?_ | ((first | refine wR ?_ | refine wD ?_ | refine W.skip ?_ | refine W.exit ?_ | refine W.ret (Post.ret ?_) | refine aP ?_ | refine aF ?_); simp only [go_sem, reduceCtorEq]) | refine wT ?_ | refine wF ?_ | refine wC (fun h => ?_) (fun h => ?_) | refine iK ?_ | refine aI2 ?_ | (refine hK _ ?_; clear hK K) | clear hK K)
    refine W.loopF (T := fun i : Nat => { t := [(1, ft (.int .i64 id)), (5, spsT l), (6, ofsT v), (8, ft (.int .i64 (i : Nat)))], h := [], nx := 0, ex := [], nt := 89 })
      (Inv := fun i => i ≤ l.length) (μ := fun i => l.length - i) (x0 := 0) ?_ (Nat.zero_le _) ?_
    · refine Fits.fit [] [1, 5, 6, 8] 0 rfl rfl ?_
      simp only [go_sem]
      exact Fits.rfl
    intro i hi KL hKL
    by_cases hlt : i < l.length
    · obtain ⟨z, hz, hzm, _⟩ := drop_at hlt
      have e1 : decide ((i : Int) < l.length) = true := by simp; omega
      have e2 : decide (i < l.length) = true := by simp; omega
      have hw := w64s i (by omega)
      have d30 := c30 z hzm
      have d29 := c29 z hzm
      clear c30 c29 cid cnil c18
      generalize cntI2 (freeB l v z.id) (timM l v (evOf z false)) (timM l v (evOf z true)) = cnt at *
      have f1 : ((cnt : Int) != cnt) = false := by simp
      repeat' (first | refine W.seq fun K hK => ?_ | refine W.block ?_ | ((first | refine wR ?_ | refine wD ?_ | refine W.skip ?_ | refine W.exit ?_ | refine W.ret (Post.ret ?_) | refine aP ?_ | refine aF ?_); simp only [go_sem, reduceCtorEq, e1, e2, hw, hz, n0, f1, spA, List.getElem?_map, List.length_map]) | refine wT ?_ | refine wF ?_ | refine wC (fun h => ?_) (fun h => ?_) | refine iK ?_ | refine aI2 ?_ | (refine hK _ ?_; clear hK K) | clear hK K)
      refine hKL.to (i + 1) (by omega) (by omega) (Fits.fit [] [1, 5, 6, 8] 0 rfl rfl ?_)
      simp only [go_sem]
      exact Fits.rfl
    · obtain rfl : i = l.length := by omega
      have e1 : decide ((l.length : Int) < l.length) = false := by simp
      clear hKL c30 c29
      have n1 : ((10 : Int) == 10) = true := by decide
      have n2 : ((0 : Int) == 0) = true := by decide
      have n3 : ((34 : Int) == 34) = true := by decide
      rcases cid with ⟨hat, c30⟩ | ⟨hat, n, c30⟩
      · have e3 : decide (atI l id < 0) = true := by simp [hat]
        repeat' (first | refine W.seq fun K hK => ?_ | refine W.block ?_ | ((first | refine wR ?_ | refine wD ?_ | refine W.skip ?_ | refine W.exit ?_ | refine W.ret (Post.ret ?_) | refine aP ?_ | refine aF ?_); simp only [go_sem, reduceCtorEq, e1, e3, n1, n2, n3, List.length_map]) | refine wT ?_ | refine wF ?_ | refine wC (fun h => ?_) (fun h => ?_) | refine iK ?_ | refine aI2 ?_ | (refine hK _ ?_; clear hK K) | clear hK K)
      · have e3 : decide (atI l id < 0) = false := by simp [hat]
        repeat' (first | refine W.seq fun K hK => ?_ | refine W.block ?_ | ((first | refine wR ?_ | refine wD ?_ | refine W.skip ?_ | refine W.exit ?_ | refine W.ret (Post.ret ?_) | refine aP ?_ | refine aF ?_); simp only [go_sem, reduceCtorEq, e1, e3, n1, n2, n3, List.length_map]) | refine wT ?_ | refine wF ?_ | refine wC (fun h => ?_) (fun h => ?_) | refine iK ?_ | refine aI2 ?_ | (refine hK _ ?_; clear hK K) | clear hK K)
end Go.Proofs.YtaaflhmfhnfjhaaGreat
namespace Go.Proofs
open Go.Shelf Go.RowKit Go.Lib Go.Sort
theorem YtaaflhmfhnfjhaaGreat.sortD_of {P : Program} {ρ : Ren} (L : SlLaysF0.n6 P ρ) (k : Nat) (aE : ∀ w, (isAgg (ρ.t 24)).run P w = .ok true w) (zE : ∀ w, (Go.sizeOf (ρ.t 24)).run P w = .ok k w) (ok : Go.Exe.CallOk P (ρ.f 6)) : Go.Exe.SortD P (ρ.f 6) k :=
  ⟨ok, fun p cap fv w => AnyF.slices_SortFunc_none L p cap fv w, fun enc cf g cb blk cap n w hk h1 hO eg hcmp hH hblk hsz => by
    have h := AnyQ.slices_SortFunc L k aE zE enc hk h1 cf hO g cb blk 0 cap (Array.range n) w eg (fun m os dk hd x y => hcmp m os dk (by simpa using hd) x y) hH hblk (by simpa using hsz)
    rw [Array.size_range] at h
    exact h⟩
namespace YtaaflhmfhnfjhaaGreat
open Go.Exe
theorem sortD53_c : SortD Tryz.prog 53 14 := sortD_of Tryz.sort53 14 (aggOf tI36) (sizeOf_ tI36) ⟨Tryz.f53, Tryz.func53, by kernel_rfl, by kernel_rfl⟩
end YtaaflhmfhnfjhaaGreat
end Go.Proofs
namespace Go.Proofs.YtaaflhmfhnfjhaaGreat
open Go.ChangeShapes Go.WideShapes Go.ChangeAt Go.RowKit Go.Exe

def selfC : Prop := ∀ (x0 : List AV) (x1 : AV), Typ Tryz.prog 6 27 x0 → Typ Tryz.prog 6 3 [x1] → PCall Tryz.prog 10 [.g (x0.map .im), .c (.im x1)] (ft (.bool true))
theorem self_lifted (hc : selfC) (os : Os) (started : os.Started) (H : Type) (enc : TypeId × Value → H) :
    ReturnsInHanded {} Tryz.checked os 10 .any (Rows.criticalSelfSpec.pre6 enc Tryz.prog Tryz.f10 Rows.criticalSelfRow.domain false) (Rows.criticalSelfSpec.post enc Tryz.prog Tryz.f10 false Rows.criticalSelfRow.fresh Rows.criticalSelfRow.handsOn Rows.criticalSelfRow.again) := by
  refine returnsInHanded_of_change_sized (C := Tryz.checked) Tryz.own started (by kernel_rfl) Tryz.func10
    (ChangeSpec.witness6 (enc := enc) (C := Tryz.checked) false ⟨#[], #[.agg #[.slice none 0 0, .int .i8 0, .int .i8 0, .int .i8 0, .int .i8 0, .slice none 0 0, .int .u8 0], .int .i64 0], []⟩ 8 (by kernel_rfl) (by kernel_rfl) (by kernel_rfl) (by kernel_rfl)) ?_
  intro W base args ds gs before hval0 hW _ hsz0 _
  have hsz : (DataW.weightsEach Tryz.prog (Tryz.f10.params.toList ++ Rows.criticalSelfSpec.plain.varTypes Tryz.prog) (ds ++ gs)).all (· ≤ reachBytes) = true := hsz0
  clear hsz0
  have hval : ∀ (j : Nat) t v, Tryz.f10.params[j]? = some t → args[j]? = some v → Value.okWide Tryz.prog W .any base t v := hval0
  have hW' := hW
  obtain ⟨p, q, hA0, hV, rfl, hfz, hnd⟩ := hW
  have hA : DataW.TrodAll enc Tryz.prog W 0 (fun _ => true) true Tryz.f10.params.toList args.toList ds p := hA0
  rw [Tryz.params10] at hA hval hsz
  obtain ⟨v0, v1, d0, d1, p0, p1, rfl, rfl, rfl, h0, h1⟩ := trodAll_two hA
  obtain ⟨rfl, rfl⟩ := trodVars_none hV
  clear hA0 hval0
  simp only [List.append_nil] at hW'
  obtain ⟨x0, r0, y0⟩ := arg_g (j := 0) 6 (by kernel_rfl) (by obtain ⟨cs, hcs, _⟩ := okWide_struct rfl (hval 0 27 v0 rfl rfl); exact ⟨cs, hcs⟩) h0 hsz rfl rfl
  obtain ⟨x1, r1, y1⟩ := arg_c (j := 1) 6 (by kernel_rfl) (by obtain ⟨z, hz⟩ := okWide_int rfl (hval 1 3 v1 rfl rfl); rw [hz]; rfl) h1 hsz rfl rfl
  have hlt : ∀ x ∈ p0 ++ p1, x.block < W.heap.size := fun x hx => by simpa using hW'.lt x hx
  have hargs : ∀ (W' : World), Below W.heap.size W W' → DataW.TrodAll enc Tryz.prog W' 0 (fun b => decide (b < W.heap.size)) true Tryz.f10.params.toList [v0, v1] [d0, d1] (p0 ++ p1) := fun W' hn => by
    have k27 : ∀ {v d ps}, DataW.Trod enc Tryz.prog W 0 (fun _ => true) true 27 v d ps → (∀ x ∈ ps, x.block < W.heap.size) → DataW.Trod enc Tryz.prog W' 0 (fun b => decide (b < W.heap.size)) true 27 v d ps :=
      fun h hl => Below.trod Tryz.laidOut (by kernel_rfl) (of_decide_eq_true (by kernel_rfl)) h hn hl
    have k3 : ∀ {v d ps}, DataW.Trod enc Tryz.prog W 0 (fun _ => true) true 3 v d ps → (∀ x ∈ ps, x.block < W.heap.size) → DataW.Trod enc Tryz.prog W' 0 (fun b => decide (b < W.heap.size)) true 3 v d ps :=
      fun h hl => Below.trod Tryz.laidOut (by kernel_rfl) (of_decide_eq_true (by kernel_rfl)) h hn hl
    rw [Tryz.params10]
    exact trodAll_mk2 (k27 h0 fun x hx => hlt x (by simp [hx])) (k3 h1 fun x hx => hlt x (by simp [hx]))
  have hcall := (hc x0 x1 y0 y1).2 (fun _ => True) W [v0, v1] (Al.cons r0 (Al.cons r1 Al.nil))
  refine hcall.mono fun e W' ⟨v, he, ⟨hB, _⟩, hr⟩ => ?_
  subst he
  obtain rfl : v = .bool true := RepA.flat_eq hr
  refine ⟨_, rfl, _, _, _, [], p0 ++ p1, [], hW', ?_, ?_, ?_, hB.frame _, fun h => by cases h⟩
  · exact trodAll_mk1 (shut_bool Tryz.underlying4 true)
  · exact hargs W' hB
  · rfl
theorem self_holds (hc : selfC) : Rows.CriticalSelfSaid :=
  OpenClaim.holds_of_wide 10 Tryz.f10 rfl rfl rfl rfl rfl rfl rfl ⟨rfl, rfl, rfl, rfl, rfl⟩ rfl rfl rfl rfl rfl (by kernel_rfl) Tryz.func10 (by kernel_rfl)
    (of_decide_eq_true (by kernel_rfl)) (by unfold Func.isWrapper; rw [if_neg (by decide +kernel)]; exact ⟨rfl, rfl⟩)
    (fun os started H enc _ => self_lifted hc os started H enc)
end Go.Proofs.YtaaflhmfhnfjhaaGreat
namespace Go.Proofs.YtaaflhmfhnfjhaaGreat
open Go.RowKit Go.Exe
theorem ytaaflhmfhnfjhaagreat_criticalSelf_holds : Rows.CriticalSelfSaid := self_holds fun x0 x1 h0 h1 => by
  obtain ⟨s, hs, rfl⟩ := sto_in (f := 0) h0
  obtain ⟨n, hx, hn1, hn2⟩ := Typ.int tU3 h1
  cases hx
  refine selfLaw_c sort53_c sortD53_c sort71_c grow85_c s hs n ?_
  simp [IntKind.min, IntKind.max, IntKind.signed, IntKind.bits] at hn1 hn2
  unfold I64
  omega
end Go.Proofs.YtaaflhmfhnfjhaaGreat
