/-
  Xc: one operation at a time: what it leaves of an abstract state.
-/
import Derived.Test.YtegcmciglakicaaXb
namespace Go.Exe
open Go.RowKit
set_option linter.unusedVariables false
set_option linter.unusedSimpArgs false

/-! ### what is known of types -/
def aggD : TypeDesc → Bool
  | .struct _ => true
  | .array _ _ => true
  | _ => false
/-- An aggregate? How many cells? -/
def TI (P : Program) (t : TypeId) : Option (Bool × Nat) := (P.info? t).bind fun i => (P.underlying t).map fun d => (aggD d, i.size)
/-- The cells of the zero value. -/
def ZV (P : Program) (t : TypeId) : Option (List Value) := (P.info? t).bind fun i => i.zero.bind fun z => if z.cells.toList.all Value.oneCell' then some z.cells.toList else none
/-- Where a struct's field begins (a field that takes cells). -/
def FO (P : Program) (t : TypeId) (f : Nat) : Option Nat := (P.underlying t).bind fun d => match d with | .struct fs => (fs[f]?).bind fun x => (P.info? x.type).bind fun i => if i.size = 0 then none else some x.offset | _ => none
/-- A slice type's element. -/
def EL (P : Program) (t : TypeId) : Option TypeId := (P.underlying t).bind fun d => match d with | .slice e => some e | _ => none

theorem TI_spec {P : Program} {t : TypeId} {g : Bool} {n : Nat} (h : TI P t = some (g, n)) : ∃ i d, P.info? t = some i ∧ P.underlying t = some d ∧ aggD d = g ∧ i.size = n := by
  unfold TI at h
  cases hi : P.info? t with
  | none => simp [hi] at h
  | some i =>
    cases hd : P.underlying t with
    | none => simp [hi, hd] at h
    | some d => simp [hi, hd] at h; exact ⟨i, d, rfl, rfl, h⟩
theorem ZV_spec {P : Program} {t : TypeId} {zs : List Value} (h : ZV P t = some zs) : ∃ i z, P.info? t = some i ∧ i.zero = some z ∧ z.cells.toList = zs ∧ ∀ v ∈ zs, v.oneCell' = true := by
  unfold ZV at h
  cases hi : P.info? t with
  | none => simp [hi] at h
  | some i =>
    cases hz : i.zero with
    | none => simp [hi, hz] at h
    | some z =>
      simp only [hi, hz, Option.bind_some] at h
      split at h
      · rename_i hall
        cases h
        exact ⟨i, z, rfl, hz, rfl, fun v hv => List.all_eq_true.1 hall v hv⟩
      · cases h
theorem FO_spec {P : Program} {t : TypeId} {f k : Nat} (h : FO P t f = some k) : ∃ fs x i, P.underlying t = some (.struct fs) ∧ fs[f]? = some x ∧ P.info? x.type = some i ∧ i.size ≠ 0 ∧ x.offset = k := by
  unfold FO at h
  cases hd : P.underlying t with
  | none => simp [hd] at h
  | some d =>
    simp only [hd, Option.bind_some] at h
    cases d <;> try (cases h; done)
    case struct fs =>
      obtain ⟨x, h1, h⟩ := Option.bind_eq_some_iff.1 h
      obtain ⟨i, h2, h⟩ := Option.bind_eq_some_iff.1 h
      split at h
      · cases h
      · rename_i h3
        exact ⟨fs, x, i, rfl, h1, h2, h3, Option.some.inj h⟩
theorem EL_spec {P : Program} {t e : TypeId} (h : EL P t = some e) : P.underlying t = some (.slice e) := by
  unfold EL at h
  cases hd : P.underlying t with
  | none => simp [hd] at h
  | some d => cases d <;> simp [hd] at h; subst h; rfl
theorem EInfo_spec {P : Program} {e : TypeId} {sz bs : Nat} (h : EInfo P e = some (sz, bs)) : ∃ i, P.info? e = some i ∧ i.size = sz ∧ i.bytes = bs := by
  unfold EInfo at h
  cases hi : P.info? e with
  | none => simp [hi] at h
  | some i => simp [hi] at h; exact ⟨i, rfl, h⟩

/-! ### the frame of a lemma on an operation -/
def OpOk (C : Ctx) (o : Oper) (s s' : St) : Prop := ∀ a w, S C s a w → ∀ next Q, (∀ a' w', S C s' a' w' → next a' w') → o.wp C.P a w next Q

section ops
variable {C : Ctx} {o : Oper} {s s1 : St} {x : TV}
theorem opOk_val (hd : ∀ i, o.dst = some i → i < s1.nt)
    (h : ∀ a w L, Sim C s a w L → ∃ v w' L', (execOp a.eval o).run C.P w = .ok (.value v) w' ∧ Sim C s1 a w' L' ∧ RepT C.P (okOf C s1 L') w' s1.used L' v x) : OpOk C o s (s1.put o.dst x) := by
  intro a w ⟨L, hs⟩ next Q hn
  obtain ⟨v, w', L', hr, h1, h2⟩ := h a w L hs
  unfold Oper.wp
  rw [hr]
  exact hn _ _ ⟨L', h1.put o.dst hd h2⟩
theorem opOk_same (hd : ∀ i, o.dst = some i → i < s.nt)
    (h : ∀ a w L, Sim C s a w L → ∃ v, (execOp a.eval o).run C.P w = .ok (.value v) w ∧ RepT C.P (okOf C s L) w s.used L v x) : OpOk C o s (s.put o.dst x) :=
  opOk_val hd fun a w L hs => let ⟨v, hr, h2⟩ := h a w L hs; ⟨v, w, L, hr, hs, h2⟩
theorem opOk_skip (hd : o.dst = none)
    (h : ∀ a w L, Sim C s a w L → ∃ w' L', (execOp a.eval o).run C.P w = .ok .skip w' ∧ Sim C s1 a w' L') : OpOk C o s s1 := by
  intro a w ⟨L, hs⟩ next Q hn
  obtain ⟨w', L', hr, h1⟩ := h a w L hs
  unfold Oper.wp
  rw [hr]
  show next (a.put o.dst undef) w'
  rw [hd]
  exact hn _ _ ⟨L', h1⟩

/-! ### moves -/
theorem ok_move {y : Operand} (ho : o.op = .move y ∨ o.op = .assign y) (hd : ∀ i, o.dst = some i → i < s.nt) : OpOk C o s (s.put o.dst (s.ev y)) := by
  refine opOk_same hd fun a w L hs => ⟨a.eval y, ?_, hs.ev y⟩
  rcases ho with ho | ho <;> (unfold execOp; simp only [ho]; rfl)

/-! ### new variables -/
theorem ok_alloc {t : TypeId} {zs : List Value} {k : Nat} (ho : o.op = .alloc t) (hz : ZV C.P t = some zs) (hk : ¬ s.used k) (hd : ∀ i, o.dst = some i → i < s.nt) :
    OpOk C o s ((s.new k (.box t (zs.map fun v => .im (.flat v)))).put o.dst (.c (.ptr k 0))) := by
  obtain ⟨i, z, hi, hz0, hzs, hall⟩ := ZV_spec hz
  refine opOk_val hd fun a w L hs => ⟨.pointer (some ⟨w.heap.size, 0, none⟩), w.alloc (.cells z.cells t), L.set k (some w.heap.size) undef, ?_, ?_, ?_⟩
  · unfold execOp
    simp [ho, Instr.alloc, zeroValue, typeInfo, hi, hz0, newVar, newRow, newObj, Sem.run_bind, go_sem]
    rfl
  · refine hs.new (w' := w.alloc (.cells z.cells t)) k hk _ undef rfl rfl ⟨rfl, Nat.le_refl _⟩ (by simp) (fun b hb => heap_alloc_old w _ hb) (some w.heap.size) (fun x hx => by cases hx; simp) ?_
    refine ⟨w.heap.size, zs, by simp [Where.set], ?_, ?_, hall⟩
    · rw [heap_alloc_new]; rw [← hzs]
    · have : Al (fun v (c : Cell) => c = .im (.flat v)) zs (zs.map fun v => Cell.im (.flat v)) := by
        refine ⟨by simp, fun i a b ha hb => ?_⟩
        simp only [List.getElem?_map, ha, Option.map_some, Option.some.injEq] at hb
        exact hb.symm
      exact this.imp_mem fun v c hv _ e => by subst e; exact RepA.flat (hall v hv)
  · exact ⟨(s.used_new k _ k).2 (.inl rfl), w.heap.size, by simp [Where.set], rfl⟩

end ops

/-! ### cells read and written -/
def TV.cells : TV → Option (List Cell)
  | .c x => some [x]
  | .g xs => some xs
  | .t _ => none
def Cell.live : Cell → Bool
  | .dead => false
  | _ => true
def live : List Cell → Bool
  | [] => true
  | c :: r => c.live && live r
theorem live_mem : ∀ {l : List Cell}, live l = true → ∀ c ∈ l, c ≠ .dead
  | [], _, _, h => by simp at h
  | c :: r, h, d, hd => by
    simp only [live, Bool.and_eq_true] at h
    rcases List.mem_cons.1 hd with rfl | hd
    · intro e; subst e; simp [Cell.live] at h
    · exact live_mem h.2 d hd
/-- A cell that owns nothing by itself; what is seen of one that does. -/
def Cell.own1 : Cell → Bool
  | .orow _ _ => true
  | .obox _ _ => true
  | _ => false
def Cell.see : Cell → Cell
  | .orow _ _ => .dead
  | .obox _ _ => .dead
  | c => c
def seeL : List Cell → List Cell
  | [] => []
  | c :: r => c.see :: seeL r
def noOwn : List Cell → Bool
  | [] => true
  | c :: r => !c.own1 && noOwn r
theorem seeL_map : ∀ l : List Cell, seeL l = l.map Cell.see
  | [] => rfl
  | c :: r => by simp [seeL, seeL_map r]
theorem noOwn_mem : ∀ {l : List Cell}, noOwn l = true → ∀ c ∈ l, c.own1 = false
  | [], _, _, h => by simp at h
  | c :: r, h, d, hd => by
    simp only [noOwn, Bool.and_eq_true, Bool.not_eq_true'] at h
    rcases List.mem_cons.1 hd with rfl | hd
    · exact h.1
    · exact noOwn_mem h.2 d hd
theorem RepN.see {P : Program} {ok : Nat → Prop} {w : World} {U : Nat → Prop} {L : Where} {v : Value} {c : Cell} (h : RepN P ok w U L v c) : RepC P ok w U L v c.see := by
  cases c <;> first | exact h | trivial
theorem fpV_plain {v : Value} {c : Cell} (h : c.own1 = false) : fpV v c = [] := by
  cases c <;> first | rfl | simp [Cell.own1] at h
theorem RepC.no_own {P : Program} {ok : Nat → Prop} {w : World} {U : Nat → Prop} {L : Where} {v : Value} {c : Cell} (h : RepC P ok w U L v c) : c.own1 = false := by
  cases c <;> first | rfl | exact h.elim
theorem fpL_plain {vs : List Value} : ∀ {cs : List Cell}, (∀ c ∈ cs, c.own1 = false) → fpL vs cs = [] := by
  induction vs with
  | nil => intro cs _; rfl
  | cons v r ih =>
    intro cs h
    cases cs with
    | nil => rfl
    | cons c q =>
      have := ih (cs := q) fun c hc => h c (by simp [hc])
      simp only [fpL, List.zipWith_cons_cons, List.flatten_cons] at this ⊢
      rw [this, fpV_plain (h c (by simp))]; rfl
theorem fpL_append {vs vs' : List Value} {cs cs' : List Cell} (h : vs.length = cs.length) : fpL (vs ++ vs') (cs ++ cs') = fpL vs cs ++ fpL vs' cs' := by
  unfold fpL; rw [List.zipWith_append h, List.flatten_append]
theorem fpL_split (vs : List Value) (cs : List Cell) (h : vs.length = cs.length) (n : Nat) : fpL vs cs = fpL (vs.take n) (cs.take n) ++ fpL (vs.drop n) (cs.drop n) := by
  rw [← fpL_append (by simp [h]), List.take_append_drop, List.take_append_drop]
def mkTV : Bool → List Cell → TV
  | true, cs => .g cs
  | false, cs => .c (cs.headD .dead)
/-- n cells at an address. -/
def St.rd (s : St) (n : Nat) : Cell → Option (List Cell)
  | .ptr k o => match s.ob k with
    | some (.box _ cs) => bif Nat.ble (o + n) cs.length then some ((cs.drop o).take n) else none
    | _ => none
  | .rp k sz j o => match s.ob k with
    | some (.row _ xs) => match xs[j]? with
      | some x => bif Nat.beq x.length sz && Nat.ble (o + n) x.length then some ((x.drop o).take n) else none
      | none => none
    | some (.nrow _ xs) => match xs[j]? with
      | some x => bif Nat.beq x.length sz && Nat.ble (o + n) x.length then some (seeL ((x.drop o).take n)) else none
      | none => none
    | _ => none
  | .ip xs => bif Nat.ble n xs.length then some ((xs.take n).map .im) else none
  | .im (.pt xs) => bif Nat.ble n xs.length then some ((xs.take n).map .im) else none
  | _ => none
def splice {α : Type} (cs : List α) (o : Nat) (ds : List α) : List α := cs.take o ++ ds ++ cs.drop (o + ds.length)
/-- The object behind an address, some of its cells written. -/
def St.wr (s : St) (ds : List Cell) : Cell → Option (Nat × Obj)
  | .ptr k o => match s.ob k with
    | some (.box t cs) => bif Nat.ble (o + ds.length) cs.length then some (k, .box t (splice cs o ds)) else none
    | _ => none
  | .rp k sz j o => match s.ob k with
    | some (.row e xs) => match xs[j]? with
      | some x => bif Nat.beq x.length sz && Nat.ble (o + ds.length) x.length then some (k, .row e (xs.set j (splice x o ds))) else none
      | none => none
    | some (.nrow e xs) => match xs[j]? with
      | some x => bif Nat.beq x.length sz && Nat.ble (o + ds.length) x.length && noOwn ((x.drop o).take ds.length) then some (k, .nrow e (xs.set j (splice x o ds))) else none
      | none => none
    | _ => none
  | _ => none

section mem
variable {C : Ctx} {s : St} {a : Act} {w : World} {L : Where}
theorem cells_one {v : Value} (h : v.oneCell' = true) : v.cells = #[v] := by cases v <;> first | rfl | simp [Value.oneCell'] at h
theorem Al.one {P : Program} {ok : Nat → Prop} {U : Nat → Prop} {vs : List Value} {cs : List Cell} (h : Al (RepC P ok w U L) vs cs) (hl : live cs = true) : ∀ v ∈ vs, v.oneCell' = true := by
  intro v hv
  obtain ⟨i, hi⟩ := List.getElem?_of_mem hv
  obtain ⟨c, h1, h2⟩ := h.get_left hi
  exact h2.one (live_mem hl c (List.mem_of_getElem? h1))
theorem RepT.toCells {P : Program} {ok : Nat → Prop} {U : Nat → Prop} {v : Value} {x : TV} {cs : List Cell} (h : RepT P ok w U L v x) (hc : x.cells = some cs) (hl : live cs = true) : Al (RepC P ok w U L) v.cells.toList cs := by
  cases x with
  | c x =>
    simp [TV.cells] at hc
    subst hc
    have h1 : v.oneCell' = true := RepC.one h (live_mem hl x (by simp))
    rw [cells_one h1]
    exact Al.nil.cons h
  | g xs =>
    simp [TV.cells] at hc
    subst hc
    obtain ⟨vs, rfl, h1⟩ := h
    simpa [Value.cells] using h1
  | t ys => simp [TV.cells] at hc
theorem cell_of_block {b : Nat} {vs : List Value} {t : TypeId} (h : w.heap[b]? = some (.cells vs.toArray t (0, 0))) (i : Nat) : w.cell? ⟨b, i, none⟩ = vs[i]? := by
  rw [cell_of_row w b i vs.toArray t (0, 0) h]; simp
/-- A row of the run's own: its cells. -/
theorem row_cells {e : TypeId} {sz n : Nat} {v : Value} {us : List Value} {b : Nat} (h : w.ownsRow 0 e sz v n us) (hb : v.ownBlock = some b) : ∀ q u, us[q]? = some u → w.cell? ⟨b, q, none⟩ = some u := by
  intro q u hq
  have := h.cells hb q u hq
  rwa [add_lit, Nat.zero_add] at this
theorem RepA.toIp {P : Program} {ok : Nat → Prop} {U : Nat → Prop} {v : Value} {xs : List AV} (h : RepA P ok w v (.pt xs)) : RepC P ok w U L v (.ip xs) := by
  cases h with
  | @pt _ ad us hcell hok hr =>
    refine ⟨ad, (List.range xs.length).map us, rfl, fun i u hi => ?_, ⟨by simp, fun i a b ha hb => ?_⟩, hok⟩
    · simp only [List.getElem?_map, Option.map_eq_some_iff] at hi
      obtain ⟨j, hj, rfl⟩ := hi
      obtain ⟨hj1, hj2⟩ := List.getElem?_eq_some_iff.1 hj
      simp only [List.length_range] at hj1
      simp only [List.getElem_range] at hj2
      subst hj2
      exact hcell i hj1
    · simp only [List.getElem?_map, Option.map_eq_some_iff] at ha
      obtain ⟨j, hj, rfl⟩ := ha
      obtain ⟨hj1, hj2⟩ := List.getElem?_eq_some_iff.1 hj
      simp only [List.getElem_range] at hj2
      subst hj2
      exact hr i b hb
/-- WHAT IS READ: the cells at the address. -/
theorem Sim.rd (h : Sim C s a w L) {x : Cell} {n : Nat} {cs : List Cell} (hr : s.rd n x = some cs) (h0 : 0 < n) {v : Value} (hv : RepC C.P (okOf C s L) w s.used L v x) :
    ∃ (ad : Addr) (us : List Value), v = .pointer (some ad) ∧ us.length = n ∧ (∀ i u, us[i]? = some u → w.cell? (ad.add i) = some u) ∧ Al (RepC C.P (okOf C s L) w s.used L) us cs := by
  cases x <;> simp only [St.rd] at hr <;> try (cases hr; done)
  case ptr k o =>
    split at hr <;> try (cases hr; done)
    rename_i t ds hob
    cases hle : Nat.ble (o + n) ds.length <;> simp only [hle, cond_true, cond_false] at hr <;> cases hr
    have hle := Nat.le_of_ble_eq_true hle
    obtain ⟨_, b, hb, rfl⟩ := hv
    obtain ⟨_, b', vs, hb', hh, hal, _⟩ := h.ob k _ hob
    obtain rfl : b = b' := Option.some.inj (hb.symm.trans hb')
    refine ⟨_, (vs.drop o).take n, rfl, by rw [List.length_take, List.length_drop, hal.1]; omega, fun i u hi => ?_, (hal.drop o).take n⟩
    rw [List.getElem?_take] at hi
    split at hi
    · rw [List.getElem?_drop] at hi
      rw [add_lit, cell_of_block hh]; exact hi
    · cases hi
  case rp k sz j o =>
    split at hr <;> try (cases hr; done)
    · rename_i e xs hob
      split at hr <;> try (cases hr; done)
      rename_i x hx
      cases hle : (Nat.beq x.length sz && Nat.ble (o + n) x.length) <;> simp only [hle, cond_true, cond_false] at hr <;> cases hr
      simp only [Bool.and_eq_true] at hle
      have h1 := beq_t hle.1
      have h2 := Nat.le_of_ble_eq_true hle.2
      obtain ⟨_, b, hb, rfl⟩ := hv
      obtain ⟨_, uss, sz', bs, hi, hs, hbb, hown, hblk, hul, hal, _⟩ := h.ob k _ hob
      obtain ⟨u, hu, hux⟩ := hal.get_right hx
      have hsz : sz = sz' := by rw [← h1, ← hux.1]; exact hul u (List.mem_of_getElem? hu)
      subst hsz
      refine ⟨_, (u.drop o).take n, rfl, by rw [List.length_take, List.length_drop, hux.1]; omega, fun i y hy => ?_, (hux.drop o).take n⟩
      rw [List.getElem?_take] at hy
      split at hy
      · rename_i hin
        rw [List.getElem?_drop] at hy
        rw [add_lit, Nat.add_assoc]
        refine row_cells hown (hblk.trans hb) _ _ ?_
        rw [flatten_get uss hul j (o + i) (by omega), hu]
        exact hy
      · cases hy
    · rename_i e xs hob
      split at hr <;> try (cases hr; done)
      rename_i x hx
      cases hle : (Nat.beq x.length sz && Nat.ble (o + n) x.length) <;> simp only [hle, cond_true, cond_false] at hr <;> cases hr
      simp only [Bool.and_eq_true] at hle
      have h1 := beq_t hle.1
      have h2 := Nat.le_of_ble_eq_true hle.2
      obtain ⟨_, b, hb, rfl⟩ := hv
      obtain ⟨_, uss, sz', bs, hi, hs, hbb, hown, hblk, hul, hal, _⟩ := h.ob k _ hob
      obtain ⟨u, hu, hux⟩ := hal.get_right hx
      have hsz : sz = sz' := by rw [← h1, ← hux.1]; exact hul u (List.mem_of_getElem? hu)
      subst hsz
      refine ⟨_, (u.drop o).take n, rfl, by rw [List.length_take, List.length_drop, hux.1]; omega, fun i y hy => ?_, by rw [seeL_map]; exact ((hux.drop o).take n).map_right _ fun _ _ h => h.see⟩
      rw [List.getElem?_take] at hy
      split at hy
      · rename_i hin
        rw [List.getElem?_drop] at hy
        rw [add_lit, Nat.add_assoc]
        refine row_cells hown (hblk.trans hb) _ _ ?_
        rw [flatten_get uss hul j (o + i) (by omega), hu]
        exact hy
      · cases hy
  case ip xs =>
    cases hle : Nat.ble n xs.length <;> simp only [hle, cond_true, cond_false] at hr <;> cases hr
    have hle := Nat.le_of_ble_eq_true hle
    obtain ⟨ad, us, rfl, h1, h2, h3⟩ := hv
    refine ⟨ad, us.take n, rfl, by rw [List.length_take, h2.1]; omega, fun i u hi => ?_, (h2.take n).map_right (fun x => Cell.im x) (fun _ _ h => h)⟩
    rw [List.getElem?_take] at hi
    split at hi
    · exact h1 i u hi
    · cases hi
  case im x =>
    cases x <;> simp only at hr <;> try (cases hr; done)
    rename_i xs
    cases hle : Nat.ble n xs.length <;> simp only [hle, cond_true, cond_false] at hr <;> cases hr
    have hle := Nat.le_of_ble_eq_true hle
    obtain ⟨ad, us, rfl, h1, h2, h3⟩ := RepA.toIp (U := s.used) (L := L) hv
    refine ⟨ad, us.take n, rfl, by rw [List.length_take, h2.1]; omega, fun i u hi => ?_, (h2.take n).map_right (fun x => Cell.im x) (fun _ _ h => h)⟩
    rw [List.getElem?_take] at hi
    split at hi
    · exact h1 i u hi
    · cases hi
/-- A variable is loaded. -/
theorem Sim.load (h : Sim C s a w L) {x : Cell} {t : TypeId} {g : Bool} {n : Nat} {cs : List Cell} (ht : TI C.P t = some (g, n)) (h0 : 0 < n) (h1 : g = false → n = 1) (hr : s.rd n x = some cs) {v : Value} (hv : RepC C.P (okOf C s L) w s.used L v x) :
    ∃ u, (Instr.loadAt t v).run C.P w = .ok u w ∧ RepT C.P (okOf C s L) w s.used L u (mkTV g cs) := by
  obtain ⟨i, d, hi, hd, hg, hn⟩ := TI_spec ht
  obtain ⟨ad, us, rfl, hl, hc, hal⟩ := h.rd hr h0 hv
  have hagg : (isAgg t).run C.P w = .ok g w := by
    unfold isAgg
    simp only [Sem.run_bind, run_underlying hd, Result.andThen_ok]
    rw [← hg]
    cases d <;> rfl
  have hsz : (sizeOf t).run C.P w = .ok n w := by simp [sizeOf, typeInfo, hi, hn]
  cases g with
  | true =>
    have hlc := run_loadCells_list (P := C.P) w ad us hc
    rw [hl] at hlc
    refine ⟨.agg us.toArray, ?_, us, rfl, hal⟩
    simp [Instr.loadAt, Instr.sureAddr, loadVar, Sem.run_bind, hagg, hsz, hlc]
  | false =>
    obtain rfl := h1 rfl
    match us, hl with
    | [u], _ =>
      obtain ⟨c, r, rfl, hc2⟩ : ∃ c r, cs = c :: r ∧ RepC C.P (okOf C s L) w s.used L u c := by
        cases cs with
        | nil => simp [Al] at hal
        | cons c r => exact ⟨c, r, rfl, (Al.cons_iff.1 hal).1⟩
      refine ⟨u, ?_, hc2⟩
      have hcell := hc 0 u rfl
      rw [add_zero] at hcell
      simp [Instr.loadAt, Instr.sureAddr, loadVar, Sem.run_bind, hagg, load, Sem.run, hcell]
end mem
section ops
variable {C : Ctx} {o : Oper} {s s1 : St} {x : TV}
theorem ok_load {t : TypeId} {y : Operand} {c : Cell} {g : Bool} {n : Nat} {cs : List Cell} (ho : o.op = .load t y) (hy : s.ev y = .c c) (ht : TI C.P t = some (g, n)) (h0 : 0 < n) (h1 : g = false → n = 1) (hr : s.rd n c = some cs) (hd : ∀ i, o.dst = some i → i < s.nt) :
    OpOk C o s (s.put o.dst (mkTV g cs)) := by
  refine opOk_same hd fun a w L hs => ?_
  have hv := hs.ev y
  rw [hy] at hv
  obtain ⟨u, h2, h3⟩ := hs.load ht h0 h1 hr hv
  refine ⟨u, ?_, h3⟩
  unfold execOp
  simp only [ho, Sem.run_bind, h2, Result.andThen_ok]
  rfl
end ops

/-! ### stores -/
theorem splice_length {α : Type} {cs : List α} {o : Nat} {ds : List α} (h : o + ds.length ≤ cs.length) : (splice cs o ds).length = cs.length := by
  simp [splice]; omega
theorem splice_take {α : Type} {cs : List α} {o : Nat} {ds : List α} {m : Nat} (h : o + ds.length ≤ m) (hm : m ≤ cs.length) : (splice cs o ds).take m = splice (cs.take m) o ds := by
  have hl : ((cs.take o) ++ ds).length = o + ds.length := by rw [List.length_append, List.length_take]; omega
  unfold splice
  rw [List.take_append, hl, List.take_of_length_le (by omega), List.take_take, Nat.min_eq_left (by omega), List.drop_take]
theorem splice_cons {α : Type} (c : List α) (r : List α) (o : Nat) (ds : List α) : splice (c ++ r) (c.length + o) ds = c ++ splice r o ds := by
  unfold splice
  rw [List.take_append, List.drop_append, List.take_of_length_le (by omega), List.drop_of_length_le (by omega), Nat.add_sub_cancel_left, show c.length + o + ds.length - c.length = o + ds.length by omega]
  simp
theorem splice_left {α : Type} (c : List α) (r : List α) (o : Nat) (ds : List α) (h : o + ds.length ≤ c.length) : splice (c ++ r) o ds = splice c o ds ++ r := by
  unfold splice
  rw [List.take_append, List.drop_append]
  simp [Nat.sub_eq_zero_of_le (show o ≤ c.length by omega), Nat.sub_eq_zero_of_le h]
theorem splice_flatten {α : Type} {sz : Nat} : ∀ (uss : List (List α)), (∀ u ∈ uss, u.length = sz) → ∀ (j o : Nat) (u ds : List α), uss[j]? = some u → o + ds.length ≤ sz → splice uss.flatten (j * sz + o) ds = (uss.set j (splice u o ds)).flatten
  | [], _, j, o, u, ds, h, _ => by simp at h
  | c :: r, hu, 0, o, u, ds, h, ho => by
    simp at h
    subst h
    simp only [Nat.zero_mul, Nat.zero_add, List.flatten_cons, List.set_cons_zero]
    exact splice_left c r.flatten o ds (by rw [hu c (by simp)]; exact ho)
  | c :: r, hu, j + 1, o, u, ds, h, ho => by
    have hc : c.length = sz := hu c (by simp)
    simp only [List.flatten_cons, List.set_cons_succ]
    rw [show (j + 1) * sz + o = c.length + (j * sz + o) by rw [Nat.add_mul, hc]; omega, splice_cons, splice_flatten r (fun u h => hu u (by simp [h])) j o u ds (by simpa using h) ho]
theorem Al.splice {α β : Type} {R : α → β → Prop} {l : List α} {m : List β} {l' : List α} {m' : List β} (h : Al R l m) (k : Al R l' m') (o : Nat) : Al R (splice l o l') (splice m o m') := by
  unfold Exe.splice
  rw [k.1]
  exact ((h.take o).append k).append (h.drop _)
theorem fpL_splice {vs us : List Value} {cs ds : List Cell} {o : Nat} (h : vs.length = cs.length) (hu : us.length = ds.length) (ho : o + ds.length ≤ cs.length) (h1 : ∀ c ∈ (cs.drop o).take ds.length, c.own1 = false) (h2 : ∀ c ∈ ds, c.own1 = false) : fpL (Exe.splice vs o us) (Exe.splice cs o ds) = fpL vs cs := by
  unfold Exe.splice
  rw [hu, fpL_append (by simp [h, hu]), fpL_append (by simp [h]), fpL_plain h2, List.append_nil, fpL_split vs cs h o, fpL_split (vs.drop o) (cs.drop o) (by simp [h]) ds.length, fpL_plain h1, List.drop_drop, List.drop_drop]
  simp
theorem fpR_set {uss : List (List Value)} {xs : List (List Cell)} {j : Nat} {u u' : List Value} {x x' : List Cell} (hu : uss[j]? = some u) (hx : xs[j]? = some x) (h : fpL u' x' = fpL u x) : fpR (uss.set j u') (xs.set j x') = fpR uss xs := by
  induction uss generalizing xs j with
  | nil => simp at hu
  | cons a r ih =>
    cases xs with
    | nil => simp at hx
    | cons b q =>
      cases j with
      | zero =>
        simp at hu hx
        subst hu; subst hx
        simp [fpR, h]
      | succ j =>
        have := ih (xs := q) (j := j) (by simpa using hu) (by simpa using hx)
        simp only [fpR, List.set_cons_succ, List.zipWith_cons_cons, List.flatten_cons] at this ⊢
        rw [this]
theorem mem_splice {α : Type} {cs ds : List α} {o : Nat} {x : α} (h : x ∈ splice cs o ds) : x ∈ cs ∨ x ∈ ds := by
  unfold splice at h
  simp only [List.mem_append] at h
  rcases h with (h | h) | h
  · exact .inl (List.mem_of_mem_take h)
  · exact .inr h
  · exact .inl (List.mem_of_mem_drop h)

section store
variable {C : Ctx} {s : St} {a : Act} {w : World} {L : Where}
theorem Sim.store (h : Sim C s a w L) {x : Cell} {t : TypeId} {g : Bool} {ds : List Cell} {k : Nat} {o' : Obj} (ht : TI C.P t = some (g, ds.length)) (hr : s.wr ds x = some (k, o')) {v u : Value} (hv : RepC C.P (okOf C s L) w s.used L v x)
    (hu : Al (RepC C.P (okOf C s L) w s.used L) u.cells.toList ds) (hone : ∀ y ∈ u.cells.toList, y.oneCell' = true) : ∃ w', (Instr.storeAt t v u).run C.P w = .ok () w' ∧ Sim C (s.putO k o') a w' L := by
  obtain ⟨i, d, hi, hd, hg, hn⟩ := TI_spec ht
  have hsz : (sizeOf t).run C.P w = .ok ds.length w := by simp [sizeOf, typeInfo, hi, hn]
  have hlen : u.cells.size = ds.length := by rw [← hu.1, Array.length_toList]
  have done : ∀ (b off : Nat) (cur : Array Value) (T : TypeId), v = .pointer (some ⟨b, off, none⟩) → w.heap[b]? = some (.cells cur T (0, 0)) → off + ds.length ≤ cur.size →
      (Instr.storeAt t v u).run C.P w = .ok () (w.setRow b (Exe.splice cur.toList off u.cells.toList).toArray) := by
    intro b off cur T hv' hh hle
    subst hv'
    have := run_storeCells_at C.P b off T u.cells.toList 0 cur w hh (by rw [Nat.add_zero, Array.length_toList, hlen]; exact hle) hone
    simp only [Nat.add_zero] at this
    simp [Instr.storeAt, Instr.sureAddr, storeVar, Sem.run_bind, hsz, hlen, this, Exe.splice]
  cases x <;> simp only [St.wr] at hr <;> try (cases hr; done)
  case ptr kk o =>
    split at hr <;> try (cases hr; done)
    rename_i T cs hob
    cases hle : Nat.ble (o + ds.length) cs.length <;> simp only [hle, cond_true, cond_false] at hr <;> cases hr
    have hle := Nat.le_of_ble_eq_true hle
    obtain ⟨_, b, hb, rfl⟩ := hv
    obtain ⟨hus, b', vs, hb', hh, hal, hvone⟩ := h.ob _ _ hob
    obtain rfl : b = b' := Option.some.inj (hb.symm.trans hb')
    have hrun := done b o vs.toArray T rfl hh (by simp [hal.1]; exact hle)
    refine ⟨_, hrun, h.write hob rfl rfl (.inl hb) rfl rfl ⟨rfl, Nat.le_refl _⟩ (by simp) (fun x hx => setRow_other w b x _ hx) fun hm => ?_⟩
    refine ⟨b, Exe.splice vs o u.cells.toList, hb, setRow_heap w b _ _ T (0, 0) hh, (hal.splice hu o).imp fun _ _ hc => hc.move hm (fun _ h => h) (Where.upto_refl _ _), fun y hy => ?_⟩
    rcases mem_splice hy with hy | hy
    · exact hvone y hy
    · exact hone y hy
  case rp kk sz j o =>
    split at hr <;> try (cases hr; done)
    · rename_i e xs hob
      split at hr <;> try (cases hr; done)
      rename_i x hx
      cases hle : (Nat.beq x.length sz && Nat.ble (o + ds.length) x.length) <;> simp only [hle, cond_true, cond_false] at hr <;> cases hr
      simp only [Bool.and_eq_true] at hle
      have h1 := beq_t hle.1
      have h2 := Nat.le_of_ble_eq_true hle.2
      obtain ⟨_, b, hb, rfl⟩ := hv
      obtain ⟨hus, uss, sz', bs, hie, hs, hbb, hown, hblk, hul, hal, hone2⟩ := h.ob _ _ hob
      obtain ⟨uj, huj, hux⟩ := hal.get_right hx
      have hsz' : sz = sz' := by rw [← h1, ← hux.1]; exact hul uj (List.mem_of_getElem? huj)
      subst hsz'
      have hb2 : (L.hv k).ownBlock = some b := hblk.trans hb
      obtain ⟨hl1, hl2⟩ := hown
      rcases hl2 with ⟨he, _⟩ | ⟨g', cap, cur, he, _, hh, hnc, hcm, hcs, htk⟩
      · rw [he] at hb2; simp [Value.ownBlock] at hb2
      · have : g' = b := by rw [he] at hb2; simpa [Value.ownBlock] using hb2
        subst this
        have hj : j < xs.length := (List.getElem?_eq_some_iff.1 hx).1
        have hcl2 : cur.toList.length = cur.size := Array.length_toList
        have hcl3 : u.cells.toList.length = ds.length := hu.1
        have hlt : j * sz + o + ds.length ≤ xs.length * sz := by
          have : (j + 1) * sz ≤ xs.length * sz := Nat.mul_le_mul_right _ hj
          rw [Nat.add_mul] at this
          omega
        have hcap : xs.length * sz ≤ cap * sz := Nat.mul_le_mul_right _ hnc
        have hrun := done g' (j * sz + o) cur e rfl hh (by omega)
        refine ⟨_, hrun, h.write hob rfl rfl (.inl hb) rfl rfl ⟨rfl, Nat.le_refl _⟩ (by simp) (fun x hx => setRow_other w g' x _ hx) fun hm => ?_⟩
        have hcl : u.cells.toList.length = ds.length := hu.1
        have hsp := splice_flatten uss hul j o uj u.cells.toList huj (by omega)
        have hul' : ∀ y ∈ uss.set j (Exe.splice uj o u.cells.toList), y.length = sz := by
          intro y hy
          rcases List.mem_or_eq_of_mem_set hy with hy | rfl
          · exact hul y hy
          · have := hul uj (List.mem_of_getElem? huj)
            rw [splice_length (by omega)]; exact this
        refine ⟨uss.set j (Exe.splice uj o u.cells.toList), sz, bs, hie, hs, by simpa using hbb, ⟨?_, .inr ⟨g', cap, _, by simpa using he, Nat.zero_le _, setRow_heap w g' _ _ e (0, 0) hh, by simpa using hnc, hcm, ?_, ?_⟩⟩, hblk, hul', ?_, ?_⟩
        · rw [flatten_length _ hul']; simp [hal.1]
        · simp only [List.size_toArray]
          rw [splice_length (by omega), hcl2]; exact hcs
        · show (Exe.splice cur.toList (j * sz + o) u.cells.toList).take _ = _
          rw [List.length_set, splice_take (by omega) (by omega), htk]
          exact hsp
        · refine (hal.set j (hux.splice hu o)).imp fun _ _ h => h.imp fun _ _ hc => hc.move hm (fun _ h => h) (Where.upto_refl _ _)
        · intro y hy
          rw [← hsp] at hy
          rcases mem_splice hy with hy | hy
          · exact hone2 y hy
          · exact hone y hy
    · rename_i e xs hob
      split at hr <;> try (cases hr; done)
      rename_i x hx
      cases hle : (Nat.beq x.length sz && Nat.ble (o + ds.length) x.length && noOwn ((x.drop o).take ds.length)) <;> simp only [hle, cond_true, cond_false] at hr <;> cases hr
      simp only [Bool.and_eq_true] at hle
      have h1 := beq_t hle.1.1
      have h2 := Nat.le_of_ble_eq_true hle.1.2
      obtain ⟨_, b, hb, rfl⟩ := hv
      obtain ⟨hus, uss, sz', bs, hie, hs, hbb, hown, hblk, hul, hal, hone2, hsub⟩ := h.ob _ _ hob
      obtain ⟨uj, huj, hux⟩ := hal.get_right hx
      have hsz' : sz = sz' := by rw [← h1, ← hux.1]; exact hul uj (List.mem_of_getElem? huj)
      subst hsz'
      have hb2 : (L.hv k).ownBlock = some b := hblk.trans hb
      obtain ⟨hl1, hl2⟩ := hown
      rcases hl2 with ⟨he, _⟩ | ⟨g', cap, cur, he, _, hh, hnc, hcm, hcs, htk⟩
      · rw [he] at hb2; simp [Value.ownBlock] at hb2
      · have : g' = b := by rw [he] at hb2; simpa [Value.ownBlock] using hb2
        subst this
        have hj : j < xs.length := (List.getElem?_eq_some_iff.1 hx).1
        have hcl2 : cur.toList.length = cur.size := Array.length_toList
        have hcl3 : u.cells.toList.length = ds.length := hu.1
        have hlt : j * sz + o + ds.length ≤ xs.length * sz := by
          have : (j + 1) * sz ≤ xs.length * sz := Nat.mul_le_mul_right _ hj
          rw [Nat.add_mul] at this
          omega
        have hcap : xs.length * sz ≤ cap * sz := Nat.mul_le_mul_right _ hnc
        have hrun := done g' (j * sz + o) cur e rfl hh (by omega)
        refine ⟨_, hrun, h.write hob rfl rfl (.inl hb) rfl rfl ⟨rfl, Nat.le_refl _⟩ (by simp) (fun x hx => setRow_other w g' x _ hx) fun hm => ?_⟩
        have hcl : u.cells.toList.length = ds.length := hu.1
        have hsp := splice_flatten uss hul j o uj u.cells.toList huj (by omega)
        have hul' : ∀ y ∈ uss.set j (Exe.splice uj o u.cells.toList), y.length = sz := by
          intro y hy
          rcases List.mem_or_eq_of_mem_set hy with hy | rfl
          · exact hul y hy
          · have := hul uj (List.mem_of_getElem? huj)
            rw [splice_length (by omega)]; exact this
        refine ⟨uss.set j (Exe.splice uj o u.cells.toList), sz, bs, hie, hs, by simpa using hbb, ⟨?_, .inr ⟨g', cap, _, by simpa using he, Nat.zero_le _, setRow_heap w g' _ _ e (0, 0) hh, by simpa using hnc, hcm, ?_, ?_⟩⟩, hblk, hul', ?_, ?_, ?_⟩
        · rw [flatten_length _ hul']; simp [hal.1]
        · simp only [List.size_toArray]
          rw [splice_length (by omega), hcl2]; exact hcs
        · show (Exe.splice cur.toList (j * sz + o) u.cells.toList).take _ = _
          rw [List.length_set, splice_take (by omega) (by omega), htk]
          exact hsp
        · refine (hal.imp_at fun i x y hx hy h => h.imp_at fun i2 v c hv hc h => h.move hm (fun _ h => h) (Where.upto_refl _ _) fun b hb => setRow_other w g' b _ fun e => (hsub.2 b (mem_fpR hx hy (mem_fpL hv hc hb))).2 (by rw [e]; exact hb2 ▸ hblk.symm)).set j (Al.splice (hux.imp_at fun i2 v c hv hc h => h.move hm (fun _ h => h) (Where.upto_refl _ _) fun b hb => setRow_other w g' b _ fun e => (hsub.2 b (mem_fpR huj hx (mem_fpL hv hc hb))).2 (by rw [e]; exact hb2 ▸ hblk.symm)) (hu.imp fun _ _ h => RepN.plain (h.move hm (fun _ h => h) (Where.upto_refl _ _))) o)
        · intro y hy
          rw [← hsp] at hy
          rcases mem_splice hy with hy | hy
          · exact hone2 y hy
          · exact hone y hy
        · rw [fpR_set huj hx (fpL_splice hux.1 hu.1 (by omega) (noOwn_mem hle.2) fun c hc => ?_)]
          · exact hsub
          · obtain ⟨i3, hi3⟩ := List.getElem?_of_mem hc
            obtain ⟨v3, _, h3⟩ := hu.get_right hi3
            exact h3.no_own
end store
section ops
variable {C : Ctx} {o : Oper} {s s1 : St} {x : TV}
theorem ok_store {t : TypeId} {y z : Operand} {c : Cell} {g : Bool} {ds : List Cell} {k : Nat} {o' : Obj} (ho : o.op = .store t y z) (hd : o.dst = none) (hy : s.ev y = .c c) (hz : (s.ev z).cells = some ds) (hl : live ds = true) (ht : TI C.P t = some (g, ds.length)) (hr : s.wr ds c = some (k, o')) :
    OpOk C o s (s.putO k o') := by
  refine opOk_skip hd fun a w L hs => ?_
  have hv := hs.ev y
  rw [hy] at hv
  have hu := (hs.ev z).toCells hz hl
  obtain ⟨w', h1, h2⟩ := hs.store ht hr hv hu (hu.one hl)
  refine ⟨w', L, ?_, h2⟩
  unfold execOp
  simp only [ho, Sem.run_bind, h1, Result.andThen_ok]
  rfl
end ops
end Go.Exe
