/-
  Xd: one operation at a time, the second part: variables made, structs and slice literals built, addresses, elements.
-/
import Derived.Test.YtegcmciglakicaaXc
import Derived.Great.BuildSlice
import Derived.Laws.Slices
namespace Go.Exe
open Go.RowKit
set_option linter.unusedVariables false
set_option linter.unusedSimpArgs false

/-! ### fill -/
theorem foldl_splice : ∀ (vs : List Value) (k off : Nat) (cs : Array Value), off + k + vs.length ≤ cs.size →
    ((vs.zipIdx k).foldl (fun cs (x : Value × Nat) => cs.setIfInBounds (off + x.2) x.1) cs).toList = splice cs.toList (off + k) vs
  | [], k, off, cs, _ => by simp [splice]
  | v :: r, k, off, cs, h => by
    simp only [List.length_cons] at h
    simp only [List.zipIdx_cons, List.foldl_cons]
    rw [foldl_splice r (k + 1) off _ (by simp; omega), Array.toList_setIfInBounds]
    have hl : off + k < cs.toList.length := by rw [Array.length_toList]; omega
    unfold splice
    simp only [List.length_cons]
    rw [show off + (k + 1) = (off + k) + 1 by omega, List.take_succ_eq_append_getElem (by simpa using hl)]
    simp [List.take_set_of_le (Nat.le_refl _), List.drop_set_of_lt (show off + k < off + k + 1 + r.length by omega)]
    rw [show off + k + 1 + r.length = off + k + (r.length + 1) by omega]
/-- What is laid into a struct, an array or a slice literal. -/
def fillA (place : Nat → Option (Nat × Nat)) : List Cell → List (Nat × List Cell) → Option (List Cell)
  | cs, [] => some cs
  | cs, p :: r => match place p.1 with
    | none => none
    | some q => bif Nat.beq p.2.length q.2 && Nat.ble (q.1 + p.2.length) cs.length then fillA place (splice cs q.1 p.2) r else none
theorem fill_sound {R : Value → Cell → Prop} (place : Nat → Option (Nat × Nat)) : ∀ (parts : List (Nat × Value)) (pa : List (Nat × List Cell)) (cells : Array Value) (cs rs : List Cell), Al R cells.toList cs →
    Al (fun (p : Nat × Value) (q : Nat × List Cell) => p.1 = q.1 ∧ Al R p.2.cells.toList q.2) parts pa → fillA place cs pa = some rs → ∃ vs, Instr.fill place cells parts = some vs ∧ Al R vs.toList rs
  | [], pa, cells, cs, rs, h1, h2, h3 => by
    obtain rfl := h2.nil_left
    simp [fillA] at h3
    subst h3
    exact ⟨cells, rfl, h1⟩
  | p :: r, pa, cells, cs, rs, h1, h2, h3 => by
    cases pa with
    | nil => simp [Al] at h2
    | cons q pa =>
      obtain ⟨⟨he, hq⟩, hr⟩ := Al.cons_iff.1 h2
      simp only [fillA] at h3
      obtain ⟨i, v⟩ := p
      simp only at he hq
      subst he
      cases hp : place q.1 with
      | none => simp [hp] at h3
      | some z =>
        simp only [hp] at h3
        cases hc : (Nat.beq q.2.length z.2 && Nat.ble (z.1 + q.2.length) cs.length) <;> simp only [hc, cond_true, cond_false] at h3
        · cases h3
        · simp only [Bool.and_eq_true] at hc
          have e1 := beq_t hc.1
          have e2 := Nat.le_of_ble_eq_true hc.2
          have hs : v.cells.size = q.2.length := by rw [← hq.1, Array.length_toList]
          have hcl : cells.size = cs.length := by rw [← h1.1, Array.length_toList]
          have hf : ((v.cells.zipIdx.foldl (fun cs (x : Value × Nat) => cs.setIfInBounds (z.1 + x.2) x.1) cells)).toList = splice cells.toList z.1 v.cells.toList := by
            have := foldl_splice v.cells.toList 0 z.1 cells (by rw [Array.length_toList]; omega)
            rw [Nat.add_zero] at this
            rw [← this, ← Array.foldl_toList, Array.toList_zipIdx]
          obtain ⟨vs, h4, h5⟩ := fill_sound place r pa _ (splice cs z.1 q.2) rs (by rw [hf]; exact h1.splice hq z.1) hr h3
          refine ⟨vs, ?_, h5⟩
          simp only [Instr.fill, hp]
          rw [if_neg (by simp; omega)]
          exact h4
/-- The places of a struct's fields, or the width of an array's elements. -/
inductive Plc where
  | st (l : List (Nat × Nat))
  | ar (sz : Nat)
def Plc.at_ : Plc → Nat → Option (Nat × Nat)
  | .st l, i => l[i]?
  | .ar sz, i => some (i * sz, sz)
def PLs (P : Program) (t : TypeId) : Option Plc := (P.underlying t).bind fun d => match d with
  | .struct fs => (fs.toList.mapM fun f => (P.info? f.type).map fun i => (f.offset, i.size)).map .st
  | .array _ e => (P.info? e).map fun i => .ar i.size
  | _ => none
theorem built_of {P : Program} {t : TypeId} {pl : Plc} {zs : List Value} (hp : PLs P t = some pl) (hz : ZV P t = some zs) (parts : List (Nat × Value)) : ∃ z : Value, z.cells.toList = zs ∧ P.built t parts = Instr.fill pl.at_ z.cells parts := by
  obtain ⟨i, z, hi, hz0, hzs, _⟩ := ZV_spec hz
  refine ⟨z, hzs, ?_⟩
  unfold PLs at hp
  unfold Program.built
  cases hd : P.underlying t with
  | none => simp [hd] at hp
  | some d =>
    cases d <;> simp [hd] at hp
    case array n e =>
      obtain ⟨ie, h1, rfl⟩ := hp
      simp only [hi, hz0, h1]
      rfl
    case struct fs =>
      obtain ⟨l, h1, rfl⟩ := hp
      simp only [hi, hz0]
      rw [h1]
      simp
      rfl
/-- The cells of a list of parts. -/
def St.parts (s : St) : List (Nat × Operand) → Option (List (Nat × List Cell))
  | [] => some []
  | p :: r => match (s.ev p.2).cells with
    | some cs => bif live cs then (match s.parts r with | some l => some ((p.1, cs) :: l) | none => none) else none
    | none => none
section parts
variable {C : Ctx} {s : St} {a : Act} {w : World} {L : Where}
theorem Sim.parts (h : Sim C s a w L) : ∀ {ps : List (Nat × Operand)} {l : List (Nat × List Cell)}, s.parts ps = some l →
    Al (fun (p : Nat × Value) (q : Nat × List Cell) => p.1 = q.1 ∧ Al (RepC C.P (okOf C s L) w s.used L) p.2.cells.toList q.2) (ps.map fun p => (p.1, a.eval p.2)) l ∧ ∀ q ∈ l, live q.2 = true
  | [], l, hl => by simp [St.parts] at hl; subst hl; exact ⟨Al.nil, by simp⟩
  | p :: r, l, hl => by
    simp only [St.parts] at hl
    split at hl
    · rename_i cs hcs
      cases hlive : live cs <;> simp only [hlive, cond_true, cond_false] at hl
      · cases hl
      · split at hl
        · rename_i l' hl'
          cases hl
          obtain ⟨h1, h2⟩ := h.parts hl'
          refine ⟨Al.cons ⟨rfl, (h.ev p.2).toCells hcs hlive⟩ h1, ?_⟩
          intro q hq
          rcases List.mem_cons.1 hq with rfl | hq
          · exact hlive
          · exact h2 q hq
        · cases hl
    · cases hl
end parts
section ops
variable {C : Ctx} {o : Oper} {s s1 : St} {x : TV}
theorem al_flat {P : Program} {ok : Nat → Prop} {w : World} {U : Nat → Prop} {L : Where} {zs : List Value} (hall : ∀ v ∈ zs, v.oneCell' = true) : Al (RepC P ok w U L) zs (zs.map fun v => Cell.im (.flat v)) := by
  have : Al (fun v (c : Cell) => c = .im (.flat v)) zs (zs.map fun v => Cell.im (.flat v)) := by
    refine ⟨by simp, fun i a b ha hb => ?_⟩
    simp only [List.getElem?_map, ha, Option.map_some, Option.some.injEq] at hb
    exact hb.symm
  exact this.imp_mem fun v c hv _ e => by subst e; exact RepA.flat (hall v hv)
theorem ok_box {t : TypeId} {y : Operand} {cs : List Cell} {k : Nat} (ho : o.op = .box t y) (hy : (s.ev y).cells = some cs) (hl : live cs = true) (hk : ¬ s.used k) (hd : ∀ i, o.dst = some i → i < s.nt) :
    OpOk C o s ((s.new k (.box t cs)).put o.dst (.c (.ptr k 0))) := by
  refine opOk_val hd fun a w L hs => ⟨.pointer (some ⟨w.heap.size, 0, none⟩), w.alloc (.cells (a.eval y).cells t), L.set k (some w.heap.size) undef, ?_, ?_, ?_⟩
  · unfold execOp
    simp [ho, Instr.box, newVar, newRow, newObj, Sem.run_bind, go_sem]
    rfl
  · have hc := (hs.ev y).toCells hy hl
    have hB : ∀ b, b < w.heap.size → (w.alloc (.cells (a.eval y).cells t)).heap[b]? = w.heap[b]? := fun b hb => heap_alloc_old w _ hb
    refine hs.new (w' := w.alloc (.cells (a.eval y).cells t)) k hk _ undef rfl rfl ⟨rfl, Nat.le_refl _⟩ (by simp) hB (some w.heap.size) (fun x hx => by cases hx; simp) ?_
    have hup := Where.set_upto L k (some w.heap.size) undef hk
    refine ⟨w.heap.size, (a.eval y).cells.toList, by simp [Where.set], by rw [heap_alloc_new], hc.imp fun _ _ h => h.move (ok' := okOf C (s.new k (.box t cs)) (L.set k (some w.heap.size) undef)) (fun b hb hlt => ⟨⟨hb.1, fun j o' hj ho' => ?_⟩, hB b hlt⟩) (fun j hj => (s.used_new k _ j).2 (.inr hj)) hup, hc.one hl⟩
    rw [St.ob_new] at hj
    split at hj
    · rename_i e; subst e; rw [Where.set_has]; simp; omega
    · rename_i e
      rw [Where.set_has_ne _ _ _ _ _ (fun e2 => e e2.symm)]
      exact hb.2 j o' hj ho'
  · exact ⟨(s.used_new k _ k).2 (.inl rfl), w.heap.size, by simp [Where.set], rfl⟩
theorem ok_build {t : TypeId} {ps : Array (Nat × Operand)} {pl : Plc} {zs : List Value} {l : List (Nat × List Cell)} {cs : List Cell} (ho : o.op = .build t ps) (hp : PLs C.P t = some pl) (hz : ZV C.P t = some zs) (hl : s.parts ps.toList = some l)
    (hf : fillA pl.at_ (zs.map fun v => .im (.flat v)) l = some cs) (hd : ∀ i, o.dst = some i → i < s.nt) : OpOk C o s (s.put o.dst (.g cs)) := by
  refine opOk_same hd fun a w L hs => ?_
  obtain ⟨z, hzs, hb⟩ := built_of hp hz (ps.toList.map fun p => (p.1, a.eval p.2))
  obtain ⟨_, _, _, _, _, hall⟩ := ZV_spec hz
  obtain ⟨h1, _⟩ := hs.parts hl
  obtain ⟨vs, h2, h3⟩ := fill_sound pl.at_ _ l z.cells _ cs (by rw [hzs]; exact al_flat hall) h1 hf
  refine ⟨.agg vs, ?_, vs.toList, by simp, h3⟩
  have hr := run_build (P := C.P) w t (ps.map fun (p : Nat × Operand) => (p.1, a.eval p.2)) vs (by rw [Array.toList_map, hb]; exact h2)
  unfold execOp
  simp only [ho, Sem.run_bind]
  rw [hr]
  rfl
/-- The header of a row that is new. -/
theorem Sim.newRow {a : Act} {w : World} {L : Where} (h : Sim C s a w L) {k : Nat} (hk : ¬ s.used k) {e : TypeId} {xs : List (List Cell)} {sz bs : Nat} (hi : EInfo C.P e = some (sz, bs)) (hsz : 0 < sz) (hb : xs.length * bs ≤ 140737488355328) {w' : World} {v : Value} {uss : List (List Value)}
    (hos : w'.os = w.os) (htape : w'.tape = w.tape) (hout : w'.output = w.output ∧ w.drawn ≤ w'.drawn) (hsize : w.heap.size ≤ w'.heap.size) (hheap : ∀ b, b < w.heap.size → w'.heap[b]? = w.heap[b]?)
    (hown : w'.ownsRow 0 e sz v xs.length uss.flatten) (hnew : ∀ x, v.ownBlock = some x → w.heap.size ≤ x ∧ x < w'.heap.size) (hul : ∀ u ∈ uss, u.length = sz) (hal : Al (Al (RepC C.P (okOf C s L) w s.used L)) uss xs) (hone : ∀ u ∈ uss.flatten, u.oneCell' = true) :
    Sim C (s.new k (.row e xs)) a w' (L.set k v.ownBlock v) := by
  refine h.new (w' := w') k hk _ v hos htape hout hsize hheap v.ownBlock hnew ?_
  have hup := Where.set_upto L k v.ownBlock v hk
  have hm : Moves (okOf C s L) (okOf C (s.new k (.row e xs)) (L.set k v.ownBlock v)) w w' := fun b hb2 hlt => ⟨⟨hb2.1, fun j o' hj ho' => by
    rw [St.ob_new] at hj
    split at hj
    · rename_i e2; subst e2; rw [Where.set_has]
      intro e3
      have := (hnew b e3).1
      omega
    · rename_i e2
      rw [Where.set_has_ne _ _ _ _ _ (fun e => e2 e.symm)]
      exact hb2.2 j o' hj ho'⟩, hheap b hlt⟩
  refine ⟨uss, sz, bs, hi, hsz, hb, ?_, ?_, hul, hal.imp fun _ _ h => h.imp fun _ _ h => h.move hm (fun j hj => (s.used_new k _ j).2 (.inr hj)) hup, hone⟩
  · have : (L.set k v.ownBlock v).hv k = v := by simp [Where.set]
    rw [this]; exact hown
  · simp [Where.set]
def inOrder : Nat → List (Nat × List Cell) → Bool
  | _, [] => true
  | n, p :: r => Nat.beq p.1 n && inOrder (n + 1) r
def allLen (sz : Nat) : List (List Cell) → Bool
  | [] => true
  | x :: r => Nat.beq x.length sz && allLen sz r
theorem allLen_mem {sz : Nat} : ∀ {l : List (List Cell)}, allLen sz l = true → ∀ x ∈ l, x.length = sz
  | [], _, _, h => by simp at h
  | x :: r, h, y, hy => by
    simp only [allLen, Bool.and_eq_true] at h
    rcases List.mem_cons.1 hy with rfl | hy
    · exact beq_t h.1
    · exact allLen_mem h.2 y hy
theorem fill_rows (sz : Nat) : ∀ (vs : List (Nat × Value)) (k : Nat) (cells : Array Value) (pre : List Value), (∀ (i : Nat) (p : Nat × Value), vs[i]? = some p → p.1 = k + i ∧ p.2.cells.size = sz) → cells.size = (k + vs.length) * sz → cells.toList.take (k * sz) = pre →
    ∃ r, Instr.fill (fun i => some (i * sz, sz)) cells vs = some r ∧ r.toList = pre ++ (vs.map fun p => p.2.cells.toList).flatten
  | [], k, cells, pre, _, hs, hp => by
    refine ⟨cells, rfl, ?_⟩
    simp only [List.length_nil, Nat.add_zero] at hs
    rw [List.take_of_length_le (by rw [Array.length_toList]; omega)] at hp
    simp [hp]
  | (i, v) :: r, k, cells, pre, h, hs, hp => by
    obtain ⟨h1, h2⟩ := h 0 (i, v) rfl
    simp only [Nat.add_zero] at h1 h2
    subst h1
    simp only [List.length_cons] at hs
    have hle : i * sz + sz ≤ cells.size := by
      rw [hs, Nat.add_mul, Nat.add_mul]; omega
    have hcl : cells.toList.length = cells.size := Array.length_toList
    have hf : ((v.cells.zipIdx.foldl (fun cs (x : Value × Nat) => cs.setIfInBounds (i * sz + x.2) x.1) cells)).toList = splice cells.toList (i * sz) v.cells.toList := by
      have := foldl_splice v.cells.toList 0 (i * sz) cells (by rw [Array.length_toList, h2]; omega)
      rw [Nat.add_zero] at this
      rw [← this, ← Array.foldl_toList, Array.toList_zipIdx]
    have hvl : v.cells.toList.length = sz := by rw [Array.length_toList]; exact h2
    obtain ⟨q, h3, h4⟩ := fill_rows sz r (i + 1) (v.cells.zipIdx.foldl (fun cs (x : Value × Nat) => cs.setIfInBounds (i * sz + x.2) x.1) cells) (pre ++ v.cells.toList) (fun j p hj => by
        have := h (j + 1) p (by simpa using hj)
        exact ⟨by omega, this.2⟩)
      (by rw [← Array.length_toList, hf, splice_length (by omega), hcl, hs]; congr 1; omega)
      (by
        rw [hf]
        unfold splice
        rw [hp, List.take_append, List.take_of_length_le (by rw [List.length_append, ← hp, List.length_take, hvl, Nat.add_mul]; omega)]
        have : (i + 1) * sz - (pre ++ v.cells.toList).length = 0 := by rw [List.length_append, ← hp, List.length_take, hvl, Nat.add_mul]; omega
        rw [this]; simp)
    refine ⟨q, ?_, by rw [h4]; simp⟩
    simp only [Instr.fill]
    rw [if_neg (by simp; omega)]
    exact h3
theorem ok_buildSlice {t e : TypeId} {len : Nat} {ps : Array (Nat × Operand)} {sz bs : Nat} {zs : List Value} {l : List (Nat × List Cell)} {k : Nat} (ho : o.op = .buildSlice t len ps) (he : EL C.P t = some e) (hi : EInfo C.P e = some (sz, bs)) (hz : ZV C.P e = some zs) (hs : 0 < sz) (hbig : len * sz ≤ 16777216) (hb : len * bs ≤ 140737488355328)
    (hl : s.parts ps.toList = some l) (hord : inOrder 0 l = true) (hll : l.length = len) (hall : allLen sz (l.map (·.2)) = true) (hk : ¬ s.used k) (hd : ∀ i, o.dst = some i → i < s.nt) :
    OpOk C o s ((s.new k (.row e (l.map (·.2)))).put o.dst (.c (.ref k))) := by
  have ht := EL_spec he
  obtain ⟨ie, hie, his, hib⟩ := EInfo_spec hi
  obtain ⟨i2, z, hi2, hz0, hzs, _⟩ := ZV_spec hz
  obtain rfl : ie = i2 := Option.some.inj (hie.symm.trans hi2)
  have hord' : ∀ (n : Nat) (l : List (Nat × List Cell)), inOrder n l = true → ∀ (i : Nat) (p : Nat × List Cell), l[i]? = some p → p.1 = n + i := by
    intro n l
    induction l generalizing n with
    | nil => intro _ i p h; simp at h
    | cons q r ih =>
      intro h i p hp
      simp only [inOrder, Bool.and_eq_true] at h
      cases i with
      | zero => simp at hp; subst hp; exact beq_t h.1
      | succ i => have := ih (n + 1) h.2 i p (by simpa using hp); omega
  refine opOk_val hd fun a w L hs' => ?_
  obtain ⟨hal, hlive⟩ := hs'.parts hl
  have hvl : (ps.toList.map fun p => (p.1, a.eval p.2)).length = len := by rw [hal.1]; exact hll
  have hel : ∀ (j : Nat) (p : Nat × Value), (ps.toList.map fun p => (p.1, a.eval p.2))[j]? = some p → p.1 = 0 + j ∧ p.2.cells.size = sz := by
    intro j p hj
    obtain ⟨q, hq, h1, h2⟩ := hal.get_left hj
    refine ⟨by rw [h1]; exact hord' 0 l hord j q hq, ?_⟩
    rw [← Array.length_toList, h2.1]
    exact allLen_mem hall q.2 (List.mem_map_of_mem (List.mem_of_getElem? hq))
  obtain ⟨r, hr1, hr2⟩ := fill_rows sz (ps.toList.map fun p => (p.1, a.eval p.2)) 0 ((Array.range (len * ie.size)).map (z.cells[· % z.cells.size]!)) [] hel (by simp [hvl, his]) (by simp)
  have hrun : (Instr.buildSlice t len (ps.map fun (p : Nat × Operand) => (p.1, a.eval p.2))).run C.P w = .ok (.slice (some ⟨w.heap.size, 0, none⟩) len len) (w.alloc (.cells r e)) := by
    by_cases h0 : len = 0
    · subst h0
      have hnil : ps.toList.map (fun p => (p.1, a.eval p.2)) = [] := List.eq_nil_of_length_eq_zero hvl
      rw [hnil] at hr1
      have hpl : ps.toList = [] := List.eq_nil_of_length_eq_zero (by simpa using hvl)
      have hps : ps = #[] := by rw [← Array.toList_inj]; exact hpl
      subst hps
      have hr : r = #[] := by rw [← Array.toList_inj, hr2]; rfl
      subst hr
      simp [Instr.buildSlice, run_underlying ht, sizeOf, typeInfo, hie, Instr.fill, newRow, Sem.run_bind]
      have e2 : ∀ f : Nat → Value, Array.map f (Array.range 0) = #[] := fun f => by simp
      rw [e2]
    · exact run_buildSlice (P := C.P) w t e len (ps.map fun (p : Nat × Operand) => (p.1, a.eval p.2)) r ie z ht hie hz0 (by rw [his]; omega) (by rw [his]; have := Nat.mul_pos (Nat.pos_of_ne_zero h0) hs; omega) (by rw [his, Array.toList_map, ← his]; simpa [his] using hr1)
  have hul : ∀ u ∈ ((ps.toList.map fun p => (p.1, a.eval p.2)).map fun p => p.2.cells.toList), u.length = sz := by
    intro u hu
    simp only [List.mem_map] at hu
    obtain ⟨p, hp, rfl⟩ := hu
    obtain ⟨j, hj⟩ := List.getElem?_of_mem (List.mem_map.2 hp)
    rw [Array.length_toList]
    exact (hel j _ hj).2
  have hal2 : Al (Al (RepC C.P (okOf C s L) w s.used L)) ((ps.toList.map fun p => (p.1, a.eval p.2)).map fun p => p.2.cells.toList) (l.map (·.2)) := hal.map _ _ fun _ _ h => h.2
  have hone : ∀ u ∈ ((ps.toList.map fun p => (p.1, a.eval p.2)).map fun p => p.2.cells.toList).flatten, u.oneCell' = true := by
    intro u hu
    obtain ⟨x, hx, hux⟩ := List.mem_flatten.1 hu
    obtain ⟨j, hj⟩ := List.getElem?_of_mem hx
    obtain ⟨y, hy, hxy⟩ := hal2.get_left hj
    simp only [List.getElem?_map, Option.map_eq_some_iff] at hy
    obtain ⟨q, hq, rfl⟩ := hy
    exact hxy.one (hlive q (List.mem_of_getElem? hq)) u hux
  refine ⟨.slice (some ⟨w.heap.size, 0, none⟩) len len, w.alloc (.cells r e), L.set k (some w.heap.size) (.slice (some ⟨w.heap.size, 0, none⟩) len len), ?_, ?_, ?_⟩
  · unfold execOp
    simp only [ho, Sem.run_bind]
    rw [hrun]
    rfl
  · refine hs'.newRow (v := .slice (some ⟨w.heap.size, 0, none⟩) len len) (w' := w.alloc (.cells r e)) hk hi hs (by rw [List.length_map, hll]; exact hb) rfl rfl ⟨rfl, Nat.le_refl _⟩ (by simp) (fun b hb => heap_alloc_old w _ hb) ?_ (fun x hx => by simp [Value.ownBlock] at hx; subst hx; simp) hul hal2 hone
    rw [List.length_map, hll]
    have hrl : r.size = len * sz := by rw [← Array.length_toList, hr2, List.nil_append, flatten_length _ hul, List.length_map, hvl]
    refine ⟨by rw [flatten_length _ hul, List.length_map, hvl], .inr ⟨w.heap.size, len, r, rfl, Nat.zero_le _, heap_alloc_new w _, Nat.le_refl _, ?_, hrl, ?_⟩⟩
    · have h1 : len ≤ len * sz := Nat.le_mul_of_pos_right _ hs
      unfold maxLen; omega
    · rw [List.take_of_length_le (by rw [Array.length_toList, hrl]; omega), hr2, List.nil_append]
  · exact ⟨(s.used_new k _ k).2 (.inl rfl), by simp [Where.set], _, _, _, rfl⟩
end ops
end Go.Exe
