/-
  Xg: append.
-/
import Derived.Test.YtegcmciglakicaaXf
namespace Go.Exe
open Go.RowKit
set_option linter.unusedVariables false
set_option linter.unusedSimpArgs false

/-- The elements behind a slice, as cells. -/
def St.src (s : St) (e sz : Nat) : Cell → Option (List (List Cell))
  | .im x => (x.els e).map fun xs => xs.map fun y => y.map .im
  | .ref k => match s.ob k with
    | some (.row e' xs) => bif Nat.beq e e' then some xs else none
    | some (.fro x) => (x.els e).map fun xs => xs.map fun y => y.map .im
    | _ => none
  | .vw k sz' lo n => match s.ob k with
    | some (.row e' xs) => bif Nat.beq e e' && Nat.beq sz sz' && Nat.ble (lo + n) xs.length then some ((xs.drop lo).take n) else none
    | _ => none
  | _ => none
section src
variable {C : Ctx} {s : St} {a : Act} {w : World} {L : Where}
def SrcOk (C : Ctx) (s : St) (w : World) (L : Where) (sz bs : Nat) (v : Value) (ys : List (List Cell)) : Prop :=
  ∃ ad c, v = .slice ad ys.length c ∧ ys.length ≤ c ∧ (ys.length = 0 ∨ ∃ g uss, ad = some g ∧ ys.length * bs ≤ 140737488355328 ∧ (∀ u ∈ uss, u.length = sz) ∧ (∀ q u, (List.flatten uss)[q]? = some u → w.cell? (g.add q) = some u) ∧ Al (Al (RepC C.P (okOf C s L) w s.used L)) uss ys ∧ ∀ u ∈ uss.flatten, u.oneCell' = true)
theorem src_im {e sz bs : Nat} (hi : EInfo C.P e = some (sz, bs)) {v : Value} {xs : List (List AV)} (h : RepA C.P (okOf C s L) w v (.sl e xs)) : SrcOk C s w L sz bs v (xs.map fun y => y.map .im) := by
  obtain ⟨ad, n, c, rfl, hl, hc, hm, h⟩ := h.openSl
  refine ⟨ad, c, by rw [List.length_map, hl], by rw [List.length_map, hl]; exact hc, ?_⟩
  rcases h with ⟨_, h0, _⟩ | ⟨g, sz', bs', rfl, uss, hi', hs, hb, hul, hcell, hok, hal⟩
  · exact .inl (by rw [List.length_map, hl]; exact h0)
  · rw [hi] at hi'
    cases hi'
    refine .inr ⟨g, uss, rfl, by rw [List.length_map, hl]; exact hb, hul, hcell, hal.map_right (fun y : List AV => y.map Cell.im) fun u y huy => huy.map_right Cell.im fun _ _ h => h, fun u hu => ?_⟩
    obtain ⟨x, hx, hux⟩ := List.mem_flatten.1 hu
    obtain ⟨j, hj⟩ := List.getElem?_of_mem hx
    obtain ⟨y, hy, hxy⟩ := hal.get_left hj
    obtain ⟨i, hi⟩ := List.getElem?_of_mem hux
    obtain ⟨z, hz, hr⟩ := hxy.get_left hi
    exact hr.one
theorem Sim.src (h : Sim C s a w L) {e sz bs : Nat} (hi : EInfo C.P e = some (sz, bs)) {c : Cell} {ys : List (List Cell)} (hc : s.src e sz c = some ys) {v : Value} (hv : RepC C.P (okOf C s L) w s.used L v c) : SrcOk C s w L sz bs v ys := by
  have row : ∀ (k : Nat) (xs : List (List Cell)) (lo n : Nat), s.ob k = some (.row e xs) → lo + n ≤ xs.length → ∀ ad cap, n ≤ cap → (0 < n → ∃ b, L.blk k = some b ∧ ad = some ⟨b, lo * sz, none⟩) → v = .slice ad n cap → SrcOk C s w L sz bs v ((xs.drop lo).take n) := by
    intro k xs lo n hob hle ad cap hcap had hv
    obtain ⟨_, uss, sz', bs', hi', hs, hb, ho, hblk, hul, hal, hone⟩ := h.ob k _ hob
    rw [hi] at hi'
    cases hi'
    have hlen : ((xs.drop lo).take n).length = n := by simp; omega
    refine ⟨ad, cap, by rw [hlen]; exact hv, by rw [hlen]; exact hcap, ?_⟩
    rw [hlen]
    by_cases h0 : n = 0
    · exact .inl h0
    · obtain ⟨b, hb2, rfl⟩ := had (by omega)
      refine .inr ⟨_, (uss.drop lo).take n, rfl, Nat.le_trans (Nat.mul_le_mul_right _ (by omega)) hb, fun u hu => hul u (List.mem_of_mem_drop (List.mem_of_mem_take hu)), fun q u hq => ?_, (hal.drop lo).take n, fun u hu => ?_⟩
      · have hul' : ∀ u ∈ (uss.drop lo).take n, u.length = sz := fun u hu => hul u (List.mem_of_mem_drop (List.mem_of_mem_take hu))
        obtain ⟨y, hy1, hy2⟩ := flatten_at hs hul' hq
        rw [List.getElem?_take] at hy1
        split at hy1
        · rw [List.getElem?_drop] at hy1
          rw [add_lit]
          refine row_cells ho (hblk.trans hb2) _ _ ?_
          have := flatten_get uss hul (lo + q / sz) (q % sz) (Nat.mod_lt _ hs)
          rw [hy1] at this
          rw [show lo * sz + q = (lo + q / sz) * sz + q % sz by rw [Nat.add_mul, Nat.add_assoc, Nat.mul_comm (q / sz), Nat.div_add_mod]]
          rw [this]; exact hy2
        · cases hy1
      · obtain ⟨x, hx, hux⟩ := List.mem_flatten.1 hu
        exact hone u (List.mem_flatten.2 ⟨x, List.mem_of_mem_drop (List.mem_of_mem_take hx), hux⟩)
  cases c <;> simp only [St.src] at hc <;> try (cases hc; done)
  case im x =>
    obtain ⟨xs, hx, rfl⟩ := Option.map_eq_some_iff.1 hc
    exact src_im hi (AV.els_sound hv hx)
  case ref k =>
    obtain ⟨_, hv1, _⟩ := hv
    split at hc
    · rename_i e' xs hob
      cases hle : Nat.beq e e' <;> simp only [hle, cond_true, cond_false] at hc <;> cases hc
      have he := beq_t hle
      subst he
      obtain ⟨_, uss, sz', bs', _, _, _, ho, hblk, _⟩ := h.ob k _ hob
      obtain ⟨ad, cap, h1, h2, h3⟩ := ownsRow_slice ho
      have := row k ys 0 ys.length hob (by omega) ad cap h2 (fun h0 => by
        rcases ho.2 with ⟨e1, e2⟩ | ⟨g, cap', cur, e1, _⟩
        · omega
        · rw [e1] at h1
          cases h1
          exact ⟨g, by rw [← hblk, e1]; rfl, by simp⟩) (hv1.trans h1)
      simpa using this
    · rename_i x hob
      obtain ⟨xs, hx, rfl⟩ := Option.map_eq_some_iff.1 hc
      have hz := AV.els_sound (h.ob k _ hob).2 hx
      rw [← hv1] at hz
      exact src_im hi hz
    · cases hc
  case vw k sz' lo n =>
    split at hc
    · rename_i e' xs hob
      cases hle : (Nat.beq e e' && Nat.beq sz sz' && Nat.ble (lo + n) xs.length) <;> simp only [hle, cond_true, cond_false] at hc <;> cases hc
      simp only [Bool.and_eq_true] at hle
      obtain ⟨⟨h1, h2⟩, h3⟩ := hle
      have h1 := beq_t h1
      have h2 := beq_t h2
      subst h1
      subst h2
      obtain ⟨_, ad, cap, h4, h5, _, _, h6⟩ := hv
      exact row k xs lo n hob (Nat.le_of_ble_eq_true h3) ad cap h5 h6 h4
    · cases hc
end src
section app
variable {C : Ctx} {s : St} {a : Act} {w : World} {L : Where}
/-- A row goes over into another, which has its block or a new one. -/
theorem Sim.regrow (h : Sim C s a w L) {r k : Nat} {e : TypeId} {xs : List (List Cell)} {o' : Obj} (hr : s.ob r = some (.row e xs)) (hk : ¬ s.used k) (ho' : o'.owns = true) {w' : World} {v' : Value} (hg : w.grownBy w' (L.hv r).ownBlock) (hdr : w.drawn ≤ w'.drawn) (hb : v'.ownBlock = (L.hv r).ownBlock ∨ v'.ownBlock = some w.heap.size ∧ w.heap.size < w'.heap.size)
    (hrep : Moves (okOf C s L) (okOf C ((s.delO r).new k o') (L.set k v'.ownBlock v')) w w' → Where.upto s.used L (L.set k v'.ownBlock v') → RepO C.P (okOf C ((s.delO r).new k o') (L.set k v'.ownBlock v')) w' ((s.delO r).new k o').used (L.set k v'.ownBlock v') k o') :
    Sim C ((s.delO r).new k o') a w' (L.set k v'.ownBlock v') := by
  have hup := Where.set_upto L k v'.ownBlock v' hk
  have hrb : (L.hv r).ownBlock = L.blk r := by obtain ⟨_, _, _, _, _, _, _, _, h5, _⟩ := h.ob r _ hr; exact h5
  have hur := (h.ob r _ hr).1
  have hob : ∀ j, ((s.delO r).new k o').ob j = if k = j then some o' else if r = j then none else s.ob j := fun j => by rw [St.ob_new, St.ob_delO]
  have hkk : ∀ b, (L.set k v'.ownBlock v').has k b ↔ v'.ownBlock = some b := fun b => Where.set_has _ _ _ _ _
  have hold : ∀ j o1 b, s.ob j = some o1 → ((L.set k v'.ownBlock v').has j b ↔ L.has j b) := fun j o1 b hj => Where.set_has_ne _ _ _ _ _ fun e => hk (e ▸ (h.ob j o1 hj).1)
  have hown : ∀ b, v'.ownBlock = some b → (L.blk r = some b ∧ b < w.heap.size ∧ (C.w0.heap.size ≤ b ∨ C.may b)) ∨ (b = w.heap.size ∧ w.heap.size < w'.heap.size) := by
    intro b hb2
    rcases hb with hb | ⟨hb, hlt⟩
    · rw [hb, hrb] at hb2
      exact .inl ⟨hb2, h.own r _ b hr rfl (.inl hb2)⟩
    · rw [hb] at hb2; cases hb2; exact .inr ⟨rfl, hlt⟩
  have hok : ∀ b, okOf C s L b → b < w.heap.size → okOf C ((s.delO r).new k o') (L.set k v'.ownBlock v') b := by
    intro b hb2 hlt
    refine ⟨hb2.1, fun j o1 hj ho1 => ?_⟩
    rw [hob] at hj
    split at hj
    · rename_i e1; subst e1; rw [hkk]
      intro e2
      rcases hown b e2 with ⟨h1, _⟩ | ⟨h1, _⟩
      · exact hb2.2 r _ hr rfl (.inl h1)
      · omega
    · split at hj
      · cases hj
      · rw [hold j o1 b hj]; exact hb2.2 j o1 hj ho1
  refine h.next rfl rfl (fun j hj => (St.used_new _ _ _ _).2 (.inr hj)) hup (Where.set_sub L k v'.ownBlock v' hk) (fun b => L.blk r = some b) hg.os hg.tape ⟨hg.output, hdr⟩ hg.size (fun b hlt hx => hg.block b hlt (fun e1 => hx (by rw [← hrb]; exact e1.symm))) (fun b hx => ⟨fun hb2 => hb2.2 r _ hr rfl (.inl hx), (h.own r _ b hr rfl (.inl hx)).2⟩) hok ?_ ?_ ?_
  · intro j o1 hj
    rw [hob] at hj
    split at hj
    · rename_i e1; subst e1; cases hj
      refine .inr ⟨(St.used_new _ _ _ _).2 (.inl rfl), hrep (fun b hb2 hlt => ⟨hok b hb2 hlt, hg.block b hlt (fun e1 => ?_)⟩) hup⟩
      exact hb2.2 r _ hr rfl (.inl (by rw [← hrb]; exact e1.symm))
    · split at hj
      · cases hj
      · rename_i e1 e2
        exact .inl ⟨hj, fun ho1 b hb2 hx => e2 (h.inj r j _ o1 b hr hj rfl ho1 (.inl hx) hb2)⟩
  · intro j j' o1 o2 b hj hj' ho1 ho2 hx hx'
    rw [hob] at hj hj'
    split at hj <;> split at hj'
    · rename_i e1 e2; exact e1.symm.trans e2
    · split at hj'
      · cases hj'
      · rename_i e1 e2 e3
        subst e1
        rw [hkk] at hx
        rw [hold j' o2 b hj'] at hx'
        rcases hown b hx with ⟨h1, _⟩ | ⟨h1, _⟩
        · exact absurd (h.inj r j' _ o2 b hr hj' rfl ho2 (.inl h1) hx') e3
        · have := (h.own j' o2 b hj' ho2 hx').1; omega
    · split at hj
      · cases hj
      · rename_i e1 e2 e3
        subst e2
        rw [hkk] at hx'
        rw [hold j o1 b hj] at hx
        rcases hown b hx' with ⟨h1, _⟩ | ⟨h1, _⟩
        · exact absurd (h.inj r j _ o1 b hr hj rfl ho1 (.inl h1) hx) e3
        · have := (h.own j o1 b hj ho1 hx).1; omega
    · split at hj <;> split at hj' <;> first | (cases hj; done) | (cases hj'; done) | skip
      rw [hold j o1 b hj] at hx
      rw [hold j' o2 b hj'] at hx'
      exact h.inj j j' o1 o2 b hj hj' ho1 ho2 hx hx'
  · intro j o1 b hj ho1 hx
    rw [hob] at hj
    split at hj
    · rename_i e1; subst e1; rw [hkk] at hx
      rcases hown b hx with ⟨_, h1, h2⟩ | ⟨h1, h2⟩
      · exact ⟨Nat.lt_of_lt_of_le h1 hg.size, h2⟩
      · subst h1; exact ⟨h2, .inl h.size⟩
    · split at hj
      · cases hj
      · rw [hold j o1 b hj] at hx
        have := h.own j o1 b hj ho1 hx
        exact ⟨Nat.lt_of_lt_of_le this.1 hg.size, this.2⟩
/-- append never takes a draw back. -/
theorem append_draws {P : Program} {w : World} {t ty e : TypeId} {i : TypeInfo} {z : Value} (ht : P.underlying t = some (.slice e)) (hi : P.info? e = some i) (hz : i.zero = some z) (hzl : z.cells.size = i.size) (hs : 0 < i.size) {v : Value} {n : Nat} {xs : List Value} (hown : w.ownsRow 0 e i.size v n xs)
    (a : Addr) (m c : Nat) (news : List Value) (hl : news.length = m * i.size) (hnews : ∀ j u, news[j]? = some u → w.cell? (a.add j) = some u) (h1 : ∀ u ∈ news, u.oneCell' = true) (hbig : n + m ≤ 140737488355328) (hbytes : (n + m) * i.bytes ≤ 140737488355328) (hm : 0 < m) {v' : Value} {w' : World}
    (hrun : (Builtin.append_ #[t, t] ty #[v, .slice (some a) m c]).run P w = .ok v' w') : w.drawn ≤ w'.drawn := by
  have hdrew : ∀ o, w.drawn ≤ (w.drew.alloc o).drawn := fun o => Nat.le_succ _
  rcases hown.2 with ⟨rfl, rfl⟩ | ⟨g, cap, cur, rfl, _, hg, hnc, hcm, hcs, htake⟩
  · have hr := run_append_nil (P := P) w t ty e i z ht hi hz a m c news hl hnews hm (by omega) (by have hb := hbytes; simp only [Nat.zero_add] at hb; omega)
    rw [hr] at hrun
    cases hrun
    exact hdrew _
  · by_cases hroom : n + m ≤ cap
    · have hfit : n * i.size + news.length ≤ cur.size := by rw [hl, hcs, ← Nat.add_mul]; exact Nat.mul_le_mul_right _ hroom
      have hr := run_append_room (P := P) w t ty e i ht hi g n cap cur hg a m c news hl hnews h1 hroom hfit
      rw [hr] at hrun
      cases hrun
      exact Nat.le_refl _
    · have hr := run_append_grow (P := P) w t ty e i z ht hi hz ⟨g, 0, none⟩ n cap xs hown.1 (hown.cells (g := g) rfl) a m c news hl hnews (by omega) (by omega) (growslice_fits (by omega) hbytes)
      rw [hr] at hrun
      cases hrun
      exact hdrew _
/-- append's run, whatever the source. -/
theorem run_append_any {P : Program} {w : World} {t ty e : TypeId} {sz bs : Nat} {zs : List Value} (ht : P.underlying t = some (.slice e)) (hi : EInfo P e = some (sz, bs)) (hs : 0 < sz) (hz : ZV P e = some zs) (hzl : zs.length = sz) {v : Value} {n : Nat} {us : List Value} (ho : w.ownsRow 0 e sz v n us) {ad : Option Addr} {m c : Nat} {news : List Value} (hm : m = 0 ∧ news = [] ∨ ∃ g, ad = some g ∧ news.length = m * sz ∧ (∀ q u, news[q]? = some u → w.cell? (g.add q) = some u)) (h1 : ∀ u ∈ news, u.oneCell' = true) (hb : (n + m) * bs ≤ 140737488355328) (hbs : 0 < bs) :
    ∃ v' w', (Builtin.append_ #[t, t] ty #[v, .slice ad m c]).run P w = .ok v' w' ∧ w'.ownsRow 0 e sz v' (n + m) (us ++ news) ∧ w.grownBy w' v.ownBlock ∧ (v'.ownBlock = v.ownBlock ∨ v'.ownBlock = some w.heap.size ∧ w.heap.size < w'.heap.size) ∧ w.drawn ≤ w'.drawn := by
  obtain ⟨i, hie, his, hib⟩ := EInfo_spec hi
  obtain ⟨i2, z, hi2, hz0, hzs, _⟩ := ZV_spec hz
  obtain rfl : i = i2 := Option.some.inj (hie.symm.trans hi2)
  by_cases h0 : m = 0
  · subst h0
    have hn : news = [] := by
      rcases hm with ⟨_, h⟩ | ⟨g, _, h, _⟩
      · exact h
      · exact List.eq_nil_of_length_eq_zero (by simpa using h)
    subst hn
    obtain ⟨a, cap, rfl, hc, _⟩ := ownsRow_slice ho
    refine ⟨_, w, ?_, by simpa using ho, ⟨rfl, rfl, rfl, Nat.le_refl _, fun _ _ _ => rfl⟩, .inl rfl, Nat.le_refl _⟩
    cases ad <;> cases a <;> simp [Builtin.append_, run_underlying ht, sizeOf, typeInfo, hie, Builtin.lenOf, Builtin.firstCells, loadCells, loadCellsFrom, hc, storeCells]
  · rcases hm with ⟨h, _⟩ | ⟨g, rfl, hl, hc⟩
    · exact absurd h h0
    · have hbig : n + m ≤ 140737488355328 := Nat.le_trans (Nat.le_mul_of_pos_right _ hbs) hb
      have hzl : z.cells.size = sz := by rw [← Array.length_toList, hzs]; exact hzl
      obtain ⟨v', w', h2, h3, h4, _, h5⟩ := run_append_own_at (P := P) w 0 t ty e i z sz bs ht hie hz0 his hib hzl hs v n us ho g m c news hl hc h1 (by unfold maxLen; omega) hb (Nat.zero_le _)
      refine ⟨v', w', h2, h3, h4, h5.imp id fun h => ⟨h, ?_⟩, by
        subst his; subst hib
        exact append_draws ht hie hz0 (by omega) hs ho g m c news hl hc h1 hbig hb (Nat.pos_of_ne_zero h0) h2⟩
      have := (h3.lt _ h).2
      exact this
end app
section ops
variable {C : Ctx} {o : Oper} {s s1 : St} {x : TV}
/-- append(v, x): v a row of the run's own. -/
theorem ok_append {y z : Operand} {t e : TypeId} {sz bs : Nat} {zs : List Value} {r k : Nat} {xs ys : List (List Cell)} {c : Cell} (ho : o.op = .call { callee := .builtin .append, args := #[y, z], argTypes := #[t, t] }) (ht : EL C.P t = some e) (hi : EInfo C.P e = some (sz, bs)) (hs0 : 0 < sz) (hbs : 0 < bs) (hz : ZV C.P e = some zs) (hzl : zs.length = sz)
    (hy : s.ev y = .c (.ref r)) (hr : s.ob r = some (.row e xs)) (hx : s.ev z = .c c) (hsrc : s.src e sz c = some ys) (hb : (xs.length + ys.length) * bs ≤ 140737488355328) (hk : ¬ s.used k) (hd : ∀ i, o.dst = some i → i < s.nt) :
    OpOk C o s (((s.delO r).new k (.row e (xs ++ ys))).put o.dst (.c (.ref k))) := by
  refine opOk_val hd fun ac w L hs => ?_
  have hv := hs.ev y
  rw [hy] at hv
  obtain ⟨hus, hvr, _⟩ := hv
  have hv2 := hs.ev z
  rw [hx] at hv2
  obtain ⟨ad, c, he, hc, hso⟩ := hs.src hi hsrc hv2
  obtain ⟨_, uss, sz', bs', hi', hs', hbb, ho', hblk, hul, hal, hone⟩ := hs.ob r _ hr
  rw [hi] at hi'
  cases hi'
  have hall : ∃ vss : List (List Value), (ys.length = 0 ∧ vss.flatten = [] ∨ ∃ g, ad = some g ∧ vss.flatten.length = ys.length * sz ∧ (∀ q u, vss.flatten[q]? = some u → w.cell? (g.add q) = some u)) ∧ (∀ u ∈ vss.flatten, u.oneCell' = true) ∧ (∀ u ∈ vss, u.length = sz) ∧ Al (Al (RepC C.P (okOf C s L) w s.used L)) vss ys := by
    rcases hso with h0 | ⟨g, vss, rfl, _, h2, h3, h4, h5⟩
    · obtain rfl := List.eq_nil_of_length_eq_zero h0
      exact ⟨[], .inl ⟨rfl, rfl⟩, by simp, by simp, Al.nil⟩
    · exact ⟨vss, .inr ⟨g, rfl, by rw [flatten_length _ h2, h4.1], h3⟩, h5, h2, h4⟩
  obtain ⟨vss, hm, h1, hul2, hal2⟩ := hall
  obtain ⟨v', w', hrun, hown', hg, hbk, hdr⟩ := run_append_any (ty := o.type) (EL_spec ht) hi hs0 hz hzl ho' hm h1 hb hbs
  refine ⟨v', w', L.set k v'.ownBlock v', ?_, ?_, ?_⟩
  · unfold execOp
    simp only [ho, resolve, invoke, builtin, Sem.run_bind, Sem.run_pure, Result.andThen_ok, List.map_toArray, List.map_cons, List.map_nil, hvr, he]
    rw [hrun]
    rfl
  · refine hs.regrow hr hk rfl hg hdr hbk fun hmv hup => ?_
    have hkk : (L.set k v'.ownBlock v').hv k = v' := by simp [Where.set]
    refine ⟨uss ++ vss, sz, bs, hi, hs0, by rw [List.length_append]; exact hb, by rw [hkk, List.flatten_append, List.length_append]; exact hown', by rw [hkk]; simp [Where.set], ?_, ?_, ?_⟩
    · intro u hu
      rcases List.mem_append.1 hu with hu | hu
      · exact hul u hu
      · exact hul2 u hu
    · exact (hal.append hal2).imp fun _ _ h => h.imp fun _ _ h => h.move hmv (fun j hj => (St.used_new _ _ _ _).2 (.inr hj)) hup
    · intro u hu
      rw [List.flatten_append] at hu
      rcases List.mem_append.1 hu with hu | hu
      · exact hone u hu
      · exact h1 u hu
  · obtain ⟨a, cap, e1, _⟩ := ownsRow_slice hown'
    exact ⟨(St.used_new _ _ _ _).2 (.inl rfl), by simp [Where.set], a, _, cap, e1⟩
/-- append(v, x): v nil. -/
theorem ok_append0 {y z : Operand} {t e : TypeId} {sz bs : Nat} {zs : List Value} {k : Nat} {ys : List (List Cell)} {c : Cell} (ho : o.op = .call { callee := .builtin .append, args := #[y, z], argTypes := #[t, t] }) (ht : EL C.P t = some e) (hi : EInfo C.P e = some (sz, bs)) (hs0 : 0 < sz) (hbs : 0 < bs) (hz : ZV C.P e = some zs) (hzl : zs.length = sz)
    (hy : s.ev y = .c (.im (.flat (.slice none 0 0)))) (hx : s.ev z = .c c) (hsrc : s.src e sz c = some ys) (hb : ys.length * bs ≤ 140737488355328) (hk : ¬ s.used k) (hd : ∀ i, o.dst = some i → i < s.nt) :
    OpOk C o s ((s.new k (.row e ys)).put o.dst (.c (.ref k))) := by
  refine opOk_val hd fun ac w L hs => ?_
  have hvr := ev_flat hs hy
  have hv2 := hs.ev z
  rw [hx] at hv2
  obtain ⟨ad, c, he, hc, hso⟩ := hs.src hi hsrc hv2
  have hall : ∃ vss : List (List Value), (ys.length = 0 ∧ vss.flatten = [] ∨ ∃ g, ad = some g ∧ vss.flatten.length = ys.length * sz ∧ (∀ q u, vss.flatten[q]? = some u → w.cell? (g.add q) = some u)) ∧ (∀ u ∈ vss.flatten, u.oneCell' = true) ∧ (∀ u ∈ vss, u.length = sz) ∧ Al (Al (RepC C.P (okOf C s L) w s.used L)) vss ys := by
    rcases hso with h0 | ⟨g, vss, rfl, _, h2, h3, h4, h5⟩
    · obtain rfl := List.eq_nil_of_length_eq_zero h0
      exact ⟨[], .inl ⟨rfl, rfl⟩, by simp, by simp, Al.nil⟩
    · exact ⟨vss, .inr ⟨g, rfl, by rw [flatten_length _ h2, h4.1], h3⟩, h5, h2, h4⟩
  obtain ⟨vss, hm, h1, hul2, hal2⟩ := hall
  obtain ⟨v', w', hrun, hown', hg, hbk, hdr⟩ := run_append_any (ty := o.type) (EL_spec ht) hi hs0 hz hzl (World.ownsRow_nil w 0 e sz) hm h1 (by rw [Nat.zero_add]; exact hb) hbs
  rw [Nat.zero_add, List.nil_append] at hown'
  refine ⟨v', w', L.set k v'.ownBlock v', ?_, ?_, ?_⟩
  · unfold execOp
    simp only [ho, resolve, invoke, builtin, Sem.run_bind, Sem.run_pure, Result.andThen_ok, List.map_toArray, List.map_cons, List.map_nil, hvr, he]
    rw [hrun]
    rfl
  · refine hs.newRow hk hi hs0 hb hg.os hg.tape ⟨hg.output, hdr⟩ hg.size (fun b hlt => hg.block b hlt (by simp [Value.ownBlock])) hown' (fun x hx => ?_) hul2 hal2 h1
    rcases hbk with h | ⟨h, h2⟩
    · rw [h] at hx; simp [Value.ownBlock] at hx
    · rw [h] at hx; cases hx; exact ⟨Nat.le_refl _, h2⟩
  · obtain ⟨a, cap, e1, _⟩ := ownsRow_slice hown'
    exact ⟨(St.used_new _ _ _ _).2 (.inl rfl), by simp [Where.set], a, _, cap, e1⟩
end ops
end Go.Exe
