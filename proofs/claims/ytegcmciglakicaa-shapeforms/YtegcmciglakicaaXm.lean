/-
  Xm: calls of functions that write nothing that was there; a function's own contract out of its body.
-/
import Derived.Test.YtegcmciglakicaaXl
namespace Go.Exe
open Go.RowKit
set_option linter.unusedVariables false
set_option linter.unusedSimpArgs false

def L0 : Where := ⟨fun _ => none, fun _ => undef, fun _ => []⟩
def U0 : Nat → Prop := fun _ => False
def CallOk (P : Program) (f : Nat) : Prop := ∃ fn, P.funcs[f]? = some fn ∧ fn.body.isSome = true ∧ (fn.name == "runtime.NumGoroutine") = false
/-- THE CONTRACT OF A FUNCTION THAT WRITES NOTHING THAT WAS THERE: its arguments and its result as trees. -/
def PCall (P : Program) (f : Nat) (args : List TV) (r : TV) : Prop :=
  CallOk P f ∧ ∀ (ok : Nat → Prop) (w : World) (vs : List Value), Al (RepT P ok w U0 L0) vs args → Calls P f vs.toArray w fun e w' => ∃ v, e = .returned v ∧ (Below w.heap.size w w' ∧ w.drawn ≤ w'.drawn) ∧ RepT P (fun b => b < w.heap.size → ok b) w' U0 L0 v r

/-! ### cells without objects -/
def unimL : List Cell → Option (List AV)
  | [] => some []
  | .im x :: r => (match unimL r with | some l => some (x :: l) | none => none)
  | _ :: _ => none
def unim : List (List Cell) → Option (List (List AV))
  | [] => some []
  | x :: r => (match unimL x, unim r with | some y, some l => some (y :: l) | _, _ => none)
def imL (xs : List AV) : List Cell := xs.map .im
def imR (xs : List (List AV)) : List (List Cell) := xs.map imL
theorem unimL_im (xs : List AV) : unimL (imL xs) = some xs := by
  induction xs with
  | nil => rfl
  | cons x r ih => simp only [imL, List.map_cons] at ih ⊢; simp [unimL, ih]
theorem unim_im (xs : List (List AV)) : unim (imR xs) = some xs := by
  induction xs with
  | nil => rfl
  | cons x r ih => simp only [imR, List.map_cons] at ih ⊢; simp [unim, ih, unimL_im]
theorem unimL_spec : ∀ {cs : List Cell} {xs : List AV}, unimL cs = some xs → cs = imL xs
  | [], xs, h => by cases h; rfl
  | c :: r, xs, h => by
    cases c <;> simp only [unimL] at h <;> try (cases h; done)
    split at h <;> try (cases h; done)
    rename_i l hl
    cases h
    rw [unimL_spec hl]; rfl
theorem unim_spec : ∀ {cs : List (List Cell)} {xs : List (List AV)}, unim cs = some xs → cs = imR xs
  | [], xs, h => by cases h; rfl
  | c :: r, xs, h => by
    simp only [unim] at h
    split at h <;> try (cases h; done)
    rename_i y l h1 h2
    cases h
    rw [unimL_spec h1, unim_spec h2]; rfl
theorem unim_append {a b : List (List Cell)} {x y : List (List AV)} (h1 : unim a = some x) (h2 : unim b = some y) : unim (a ++ b) = some (x ++ y) := by
  rw [unim_spec h1, unim_spec h2]
  have : imR x ++ imR y = imR (x ++ y) := by simp [imR]
  rw [this, unim_im]
/-- A cell told without objects of the run's own. -/
def St.imC (s : St) : Cell → Option Cell
  | .im x => some (.im x)
  | .ip xs => some (.ip xs)
  | .ref k => (match s.ob k with
    | some (.row e xs) => (match unim xs with | some ys => some (.im (.sl e ys)) | none => none)
    | some (.fro x) => some (.im x)
    | _ => none)
  | .vw k sz lo n => (match s.ob k with
    | some (.row e xs) => (match unim ((xs.drop lo).take n) with | some ys => (match Nat.ble (lo + n) xs.length && allLen sz xs with | true => some (.im (.sl e ys)) | false => none) | none => none)
    | _ => none)
  | .clo f [] => some (.im (.flat (.func (.func f) #[] #[])))
  | .mp k => (match s.ob k with
    | some (.fro x) => some (.im x)
    | _ => none)
  | .ptr k o => (match s.ob k with
    | some (.box _ cs) => (match unimL (cs.drop o) with | some xs => some (.ip xs) | none => none)
    | _ => none)
  | _ => none
def St.imCs (s : St) : List Cell → Option (List Cell)
  | [] => some []
  | c :: r => (match s.imC c, s.imCs r with | some d, some l => some (d :: l) | _, _ => none)
def St.imT (s : St) : TV → Option TV
  | .c x => (match s.imC x with | some d => some (.c d) | none => none)
  | .g xs => (match s.imCs xs with | some l => some (.g l) | none => none)
  | .t _ => none
def St.imArgs (s : St) : List Operand → Option (List TV)
  | [] => some []
  | y :: r => (match s.imT (s.ev y), s.imArgs r with | some d, some l => some (d :: l) | _, _ => none)
def tvK : TV → List Key
  | .c x => cellK x
  | .g xs => xs.flatMap cellK
  | .t _ => []
def argsK (s : St) : List Operand → List Key
  | [] => []
  | y :: r => opK y ++ tvK (s.ev y) ++ argsK s r
section
variable {F : List Key} {s s1 : St}
theorem agree_imC (h : agreeOn F s s1) {c : Cell} (hc : ∀ x ∈ cellK c, x ∈ F) : s1.imC c = s.imC c := by
  cases c with
  | ref k => have := agree_ob h (hc (.h k) (by simp [cellK])); simp only [St.imC, this]
  | ptr k o => have := agree_ob h (hc (.h k) (by simp [cellK])); simp only [St.imC, this]
  | mp k => have := agree_ob h (hc (.h k) (by simp [cellK])); simp only [St.imC, this]
  | vw k a b o => have := agree_ob h (hc (.h k) (by simp [cellK])); simp only [St.imC, this]
  | clo f caps => cases caps <;> rfl
  | _ => rfl
theorem agree_imCs (h : agreeOn F s s1) : ∀ {cs : List Cell}, (∀ x ∈ cs.flatMap cellK, x ∈ F) → s1.imCs cs = s.imCs cs
  | [], _ => rfl
  | c :: r, hc => by
    simp only [St.imCs]
    rw [agree_imC h (c := c) fun x hx => hc x (by simp [List.flatMap_cons, hx]), agree_imCs h (cs := r) fun x hx => hc x (by simp only [List.flatMap_cons, List.mem_append]; exact .inr hx)]
theorem agree_imT (h : agreeOn F s s1) {v : TV} (hc : ∀ x ∈ tvK v, x ∈ F) : s1.imT v = s.imT v := by
  cases v with
  | c x => simp only [St.imT]; rw [agree_imC h hc]
  | g xs => simp only [St.imT]; rw [agree_imCs h hc]
  | t ys => rfl
theorem agree_imArgs (h : agreeOn F s s1) : ∀ {ys : List Operand}, (∀ x ∈ argsK s ys, x ∈ F) → s1.imArgs ys = s.imArgs ys
  | [], _ => rfl
  | y :: r, hc => by
    simp only [St.imArgs]
    rw [agree_ev h (y := y) fun x hx => hc x (by simp [argsK, hx]), agree_imT h (v := s.ev y) fun x hx => hc x (by simp [argsK, hx]), agree_imArgs h (ys := r) fun x hx => hc x (by simp [argsK, hx])]
end
section
variable {C : Ctx} {s : St} {a : Act} {w : World} {L : Where}
/-- What may be read while nothing is written: all that the run may read, and what it owns. -/
def okAll (C : Ctx) (b : Nat) : Prop := b < C.w0.heap.size → C.ok0 b ∨ C.may b
theorem okOf_all {b : Nat} (h : okOf C s L b) : okAll C b := h.1
theorem RepC.im_any {P : Program} {ok : Nat → Prop} {U U' : Nat → Prop} {L L' : Where} {v : Value} {x : AV} (h : RepC P ok w U L v (.im x)) : RepC P ok w U' L' v (.im x) := h
theorem Al.imL {P : Program} {ok : Nat → Prop} {U : Nat → Prop} {us : List Value} {xs : List AV} (h : Al (RepC P ok w U L) us (imL xs)) : Al (RepA P ok w) us xs := h.of_map_right fun _ _ h => h
theorem Sim.own_ok (h : Sim C s a w L) {k : Nat} {o : Obj} {b : Nat} (hk : s.ob k = some o) (ho : o.owns = true) (hb : L.blk k = some b) : okAll C b := fun hlt => (h.own k o b hk ho (.inl hb)).2.elim (fun h => absurd hlt (Nat.not_lt.2 h)) .inr
theorem rowA (h : Sim C s a w L) {k : Nat} {e : TypeId} {ys : List (List AV)} (hk : s.ob k = some (.row e (imR ys))) : RepA C.P (okAll C) w (L.hv k) (.sl e ys) := by
  obtain ⟨_, uss, sz, bs, hi, hs, hb, ho, hblk, hul, hal, hone⟩ := h.ob k _ hk
  have hlen : (imR ys).length = ys.length := by simp [imR]
  rw [hlen] at hb ho
  rcases ho.2 with ⟨h1, h2⟩ | ⟨g, cap, cur, h1, _, hh, h3, h4, h5, h6⟩
  · obtain rfl := List.eq_nil_of_length_eq_zero h2
    rw [h1]; exact .nil
  · have hb2 : L.blk k = some g := by rw [← hblk, h1]; rfl
    have := RepA.mkSl (P := C.P) (ok := okAll C) (w := w) (ad := ⟨g, 0, none⟩) (c := cap) (e := e) (xs := ys) (uss := uss) hi hs h3 h4 hb hul (fun q u hq => by rw [add_lit, Nat.zero_add]; exact row_cells ho (by rw [h1]; rfl) q u hq) (fun _ => h.own_ok hk rfl hb2)
      (hal.of_map_right fun u x hx => (hx.imL).imp fun _ _ h => h.mono fun b hb _ => okOf_all hb)
    rw [h1]; exact this
theorem Sim.imC (h : Sim C s a w L) {c d : Cell} (hc : s.imC c = some d) {v : Value} (hv : RepC C.P (okOf C s L) w s.used L v c) : RepC C.P (okAll C) w U0 L0 v d := by
  cases c with
  | im x => cases hc; exact RepA.mono hv fun b hb _ => okOf_all hb
  | ip xs =>
    cases hc
    obtain ⟨ad, us, rfl, h1, h2, h3⟩ := hv
    exact ⟨ad, us, rfl, h1, h2.imp fun _ _ h => h.mono fun b hb _ => okOf_all hb, fun h0 => okOf_all (h3 h0)⟩
  | ref k =>
    simp only [St.imC] at hc
    obtain ⟨_, rfl, _⟩ := hv
    split at hc <;> try (cases hc; done)
    · rename_i e xs hob
      split at hc <;> try (cases hc; done)
      rename_i ys hy
      cases hc
      rw [unim_spec hy] at hob
      exact rowA h hob
    · rename_i x hob
      cases hc
      exact RepA.mono (h.ob k _ hob).2 fun b hb _ => okOf_all hb
  | vw k sz lo n =>
    simp only [St.imC] at hc
    split at hc <;> try (cases hc; done)
    rename_i e xs hob
    split at hc <;> try (cases hc; done)
    rename_i ys hy
    split at hc <;> try (cases hc; done)
    rename_i hchk
    cases hc
    simp only [Bool.and_eq_true] at hchk
    have hle := Nat.le_of_ble_eq_true hchk.1
    obtain ⟨_, uss, sz', bs, hi, hs, hb, ho, hblk, hul, hal, hone⟩ := h.ob k _ hob
    obtain ⟨_, ad, cap, rfl, h2, h3, hnn, h4⟩ := hv
    have hlen : ys.length = n := by
      have := congrArg List.length (unim_spec hy)
      simp [imR] at this
      omega
    by_cases h0 : n = 0
    · subst h0
      obtain rfl := List.eq_nil_of_length_eq_zero hlen
      cases ad with
      | none => rw [hnn rfl]; exact .nil
      | some g => exact RepA.mkSl (P := C.P) (ok := okAll C) (w := w) (ad := g) (c := cap) (e := e) (xs := []) (uss := []) hi hs (Nat.zero_le _) h3 (by simp) (by simp) (by simp) (by simp) Al.nil
    · obtain ⟨g, hb2, rfl⟩ := h4 (by omega)
      have hsz : sz = sz' := by
        have hx : 0 < xs.length := by omega
        have h5 := allLen_mem hchk.2 xs[0] (List.getElem_mem _)
        obtain ⟨u, hu, hux⟩ := hal.get_right (List.getElem?_eq_getElem hx)
        rw [← h5, ← hux.1]
        exact hul u (List.mem_of_getElem? hu)
      subst hsz
      have hul' : ∀ u ∈ (uss.drop lo).take n, u.length = sz := fun u hu => hul u (List.mem_of_mem_drop (List.mem_of_mem_take hu))
      have hal' := (hal.drop lo).take n
      rw [unim_spec hy] at hal'
      have := RepA.mkSl (P := C.P) (ok := okAll C) (w := w) (ad := ⟨g, lo * sz, none⟩) (c := cap) (e := e) (xs := ys) (uss := (uss.drop lo).take n) hi hs (by omega) h3 (Nat.le_trans (Nat.mul_le_mul_right _ (by omega)) hb) hul' (fun q u hq => by
          obtain ⟨y, hy1, hy2⟩ := flatten_at hs hul' hq
          rw [List.getElem?_take] at hy1
          split at hy1
          · rw [List.getElem?_drop] at hy1
            rw [add_lit]
            refine row_cells ho (hblk.trans hb2) _ _ ?_
            have := flatten_get uss hul (lo + q / sz) (q % sz) (Nat.mod_lt _ hs)
            rw [hy1] at this
            rw [show lo * sz + q = (lo + q / sz) * sz + q % sz by rw [Nat.add_mul, Nat.add_assoc, Nat.mul_comm (q / sz), Nat.div_add_mod]]
            rw [this]; exact hy2
          · cases hy1) (fun _ => h.own_ok hob rfl hb2) (hal'.of_map_right fun u x hx => (hx.imL).imp fun _ _ h => h.mono fun b hb _ => okOf_all hb)
      rw [hlen] at this
      exact this
  | clo f caps =>
    cases caps with
    | nil =>
      cases hc
      obtain ⟨vs, rfl, h1⟩ := hv
      obtain rfl := h1.nil_right
      exact RepA.flat rfl
    | cons p r => simp only [St.imC] at hc; cases hc
  | ptr k o =>
    simp only [St.imC] at hc
    split at hc <;> try (cases hc; done)
    rename_i t cs hob
    split at hc <;> try (cases hc; done)
    rename_i xs hx
    cases hc
    obtain ⟨_, b, hb, rfl⟩ := hv
    obtain ⟨_, b', vs, hb', hh, hal, _⟩ := h.ob k _ hob
    obtain rfl : b = b' := Option.some.inj (hb.symm.trans hb')
    have hal' := hal.drop o
    rw [unimL_spec hx] at hal'
    refine ⟨⟨b, o, none⟩, vs.drop o, rfl, fun i u hi => ?_, (hal'.imL).imp fun _ _ h => h.mono fun b hb _ => okOf_all hb, fun _ => h.own_ok hob rfl hb⟩
    rw [List.getElem?_drop] at hi
    rw [add_lit, cell_of_block hh]; exact hi
  | rp k a b o => cases hc
  | mp k =>
    simp only [St.imC] at hc
    obtain ⟨_, rfl, _⟩ := hv
    split at hc <;> try (cases hc; done)
    rename_i x hob
    cases hc
    exact RepA.mono (h.ob k _ hob).2 fun b hb _ => okOf_all hb
  | orow e xs => cases hc
  | obox t cs => cases hc
  | dead => cases hc
theorem Sim.imCs (h : Sim C s a w L) : ∀ {cs ds : List Cell}, s.imCs cs = some ds → ∀ {vs : List Value}, Al (RepC C.P (okOf C s L) w s.used L) vs cs → Al (RepC C.P (okAll C) w U0 L0) vs ds
  | [], ds, hc, vs, hv => by cases hc; obtain rfl := hv.nil_right; exact Al.nil
  | c :: r, ds, hc, vs, hv => by
    simp only [St.imCs] at hc
    split at hc <;> try (cases hc; done)
    rename_i d l h1 h2
    cases hc
    obtain ⟨v, vr, rfl, k1, k2⟩ := hv.cons_right
    exact Al.cons (h.imC h1 k1) (h.imCs h2 k2)
theorem Sim.imT (h : Sim C s a w L) {x y : TV} (hc : s.imT x = some y) {v : Value} (hv : RepT C.P (okOf C s L) w s.used L v x) : RepT C.P (okAll C) w U0 L0 v y := by
  cases x with
  | c x =>
    simp only [St.imT] at hc
    split at hc <;> try (cases hc; done)
    rename_i d h1
    cases hc
    exact h.imC h1 hv
  | g xs =>
    simp only [St.imT] at hc
    split at hc <;> try (cases hc; done)
    rename_i d h1
    cases hc
    obtain ⟨vs, h2, h3⟩ := hv
    exact ⟨vs, h2, h.imCs h1 h3⟩
  | t ys => cases hc
theorem Sim.imArgs (h : Sim C s a w L) : ∀ {ys : List Operand} {args : List TV}, s.imArgs ys = some args → Al (RepT C.P (okAll C) w U0 L0) (ys.map a.eval) args
  | [], args, hc => by cases hc; exact Al.nil
  | y :: r, args, hc => by
    simp only [St.imArgs] at hc
    split at hc <;> try (cases hc; done)
    rename_i d l h1 h2
    cases hc
    exact Al.cons (h.imT h1 (h.ev y)) (h.imArgs h2)
theorem Sim.below (h : Sim C s a w L) {w' : World} (hb : Below w.heap.size w w' ∧ w.drawn ≤ w'.drawn) : Sim C s a w' L :=
  h.next rfl rfl (fun _ h => h) (Where.upto_refl _ _) (fun _ _ => rfl) (fun _ => False) hb.1.os hb.1.tape ⟨hb.1.output, hb.2⟩ hb.1.size (fun b hlt _ => hb.1.block b hlt) (fun _ hx => hx.elim) (fun _ h _ => h) (fun k o hk => .inl ⟨hk, fun _ _ _ hf => hf⟩) h.inj
    (fun k o b hk ho hbk => ⟨Nat.lt_of_lt_of_le (h.own k o b hk ho hbk).1 hb.1.size, (h.own k o b hk ho hbk).2⟩)
end

/-! ### the call -/
def fnOf : TV → Option (Nat × List (Nat × Nat))
  | .c (.clo f caps) => some (f, caps)
  | .c (.im (.flat (.func (.func f) first cap))) => (match first.toList, cap.toList with | [], [] => some (f, []) | _, _ => none)
  | _ => none
theorem run_call {P : Program} {o : Oper} {ρ : Operand → Value} {y : Operand} {ys : Array Operand} {ts : Array TypeId} {f : Nat} {caps : Array Value} {w : World} (ho : o.op = .call { callee := .value y, args := ys, argTypes := ts }) (hy : ρ y = .func (.func f) #[] caps) (hc : CallOk P f) :
    (execOp ρ o).run P w = .ok (.enter f (ys.map ρ ++ caps)) w := by
  obtain ⟨fn, h1, h2, h3⟩ := hc
  have h4 : fn.body.isNone = false := by cases hb : fn.body <;> simp_all
  have h5 : ¬ fn.name = "runtime.NumGoroutine" := by simpa using h3
  unfold execOp
  simp [ho, resolve, hy, Deferred.ofValue, invoke, callFunc, Sem.run_bind, h1, h5]
  intro hb
  rw [hb] at h2
  cases h2
def flatC : Cell → Bool
  | .im (.flat _) => true
  | _ => false
def flatT : TV → Bool
  | .c x => flatC x
  | .g xs => xs.all flatC
  | .t ys => ys.all fun y => y.2.all flatC
theorem flatC_spec {P : Program} {ok ok' : Nat → Prop} {w : World} {U U' : Nat → Prop} {L L' : Where} {v : Value} {c : Cell} (hf : flatC c = true) (h : RepC P ok w U L v c) : RepC P ok' w U' L' v c := by
  cases c with
  | im x => cases x with
    | flat u => cases h with | flat h => exact RepA.flat h
    | sl e xs => simp [flatC] at hf
    | sn e xs => simp [flatC] at hf
    | pt xs => simp [flatC] at hf
    | fn f cs => simp [flatC] at hf
    | mp kt es => simp [flatC] at hf
  | _ => simp [flatC] at hf
theorem flatT_spec {P : Program} {ok ok' : Nat → Prop} {w : World} {U U' : Nat → Prop} {L L' : Where} {v : Value} {x : TV} (hf : flatT x = true) (h : RepT P ok w U L v x) : RepT P ok' w U' L' v x := by
  cases x with
  | c x => exact flatC_spec hf h
  | g xs =>
    obtain ⟨vs, h1, h2⟩ := h
    refine ⟨vs, h1, h2.imp_mem fun a b _ hb h => flatC_spec (List.all_eq_true.1 hf b hb) h⟩
  | t ys =>
    obtain ⟨vs, h1, h2⟩ := h
    refine ⟨vs, h1, h2.imp_mem fun a b _ hb h => ?_⟩
    have hb := List.all_eq_true.1 hf b hb
    unfold RepT1 at h ⊢
    split
    · rename_i hc; rw [if_pos hc] at h
      obtain ⟨us, h3, h4⟩ := h
      exact ⟨us, h3, h4.imp_mem fun a b _ hb2 h => flatC_spec (List.all_eq_true.1 hb b hb2) h⟩
    · rename_i hc; rw [if_neg hc] at h
      obtain ⟨c, h3, h4⟩ := h
      refine ⟨c, h3, flatC_spec ?_ h4⟩
      rw [h3] at hb
      simpa using hb
/-- Cells that hold trees alone may be told at any placing. -/
def imOnlyC : Cell → Bool
  | .im _ => true
  | .ip _ => true
  | _ => false
def imOnly : TV → Bool
  | .c x => imOnlyC x
  | .g xs => xs.all imOnlyC
  | .t ys => ys.all fun y => y.2.all imOnlyC
theorem imOnlyC_spec {P : Program} {ok ok' : Nat → Prop} {w : World} {U U' : Nat → Prop} {L L' : Where} {v : Value} {c : Cell} (hf : imOnlyC c = true) (h : RepC P ok w U L v c) (hok : ∀ b, ok b → b < w.heap.size → ok' b) : RepC P ok' w U' L' v c := by
  cases c with
  | im x => exact RepA.mono h hok
  | ip xs =>
    obtain ⟨a, us, h1, h2, h3, h4⟩ := h
    refine ⟨a, us, h1, h2, h3.imp fun _ _ h => h.mono hok, fun h0 => hok _ (h4 h0) ?_⟩
    have := World.block_lt_of_cell? w _ (h2 0 _ (List.getElem?_eq_getElem (by rw [h3.1]; exact h0)))
    rwa [add_block] at this
  | _ => simp [imOnlyC] at hf
theorem imOnly_spec {P : Program} {ok ok' : Nat → Prop} {w : World} {U U' : Nat → Prop} {L L' : Where} {v : Value} {x : TV} (hf : imOnly x = true) (h : RepT P ok w U L v x) (hok : ∀ b, ok b → b < w.heap.size → ok' b) : RepT P ok' w U' L' v x := by
  cases x with
  | c x => exact imOnlyC_spec hf h hok
  | g xs =>
    obtain ⟨vs, h1, h2⟩ := h
    exact ⟨vs, h1, h2.imp_mem fun a b _ hb h => imOnlyC_spec (List.all_eq_true.1 hf b hb) h hok⟩
  | t ys =>
    obtain ⟨vs, h1, h2⟩ := h
    refine ⟨vs, h1, h2.imp_mem fun a b _ hb h => ?_⟩
    have hb := List.all_eq_true.1 hf b hb
    unfold RepT1 at h ⊢
    split
    · rename_i hc; rw [if_pos hc] at h
      obtain ⟨us, h3, h4⟩ := h
      exact ⟨us, h3, h4.imp_mem fun a b _ hb2 h => imOnlyC_spec (List.all_eq_true.1 hb b hb2) h hok⟩
    · rename_i hc; rw [if_neg hc] at h
      obtain ⟨c, h3, h4⟩ := h
      refine ⟨c, h3, imOnlyC_spec ?_ h4 hok⟩
      rw [h3] at hb
      simpa using hb
section
variable {C : Ctx} {k : Nat} {o : Oper} {s : St} {K : List Key → List Upd → Prop}
/-- A call whose result bears no slice: nothing that the run owns is given away. -/
theorem AX.pcall {y : Operand} {ys : Array Operand} {ts : Array TypeId} {f : Nat} {args : List TV} {r : TV} (ho : o.op = .call { callee := .value y, args := ys, argTypes := ts }) (hy : fnOf (s.ev y) = some (f, [])) (ha : s.imArgs ys.toList = some args) (hc : PCall C.P f args r) (hr : flatT r = true) (hd : dstOk o.dst s.nt = true)
    (h : K (opK y ++ argsK s ys.toList) (dU o.dst r)) : AX C k o s K := by
  refine ⟨_, _, fun s1 hag hn hk => ?_, fun u hu j hj => (given_dU u hu j hj).elim, h⟩
  rw [ups_dU]
  intro a w ⟨L, hs⟩ next Q hnext
  have e1 : s1.ev y = s.ev y := agree_ev hag (by intro x hx; simp [hx])
  have e2 : s1.imArgs ys.toList = some args := by rw [agree_imArgs hag (by intro x hx; simp [hx])]; exact ha
  have hfn : a.eval y = .func (.func f) #[] #[] := by
    have hv := hs.ev y
    rw [e1] at hv
    unfold fnOf at hy
    split at hy <;> try (cases hy; done)
    · rename_i f' caps hf
      cases hy
      rw [hf] at hv
      obtain ⟨vs, h1, h2⟩ := hv
      obtain rfl := h2.nil_right
      exact h1
    · rename_i f' first cap hf
      split at hy <;> try (cases hy; done)
      rename_i h1 h2
      cases hy
      rw [hf] at hv
      have := RepA.flat_eq hv
      rw [this]
      have h3 : first = #[] := by cases first; simp at h1; subst h1; rfl
      have h4 : cap = #[] := by cases cap; simp at h2; subst h2; rfl
      rw [h3, h4]
  unfold Oper.wp
  rw [run_call ho hfn hc.1]
  show Calls C.P f _ w _
  have hargs := hs.imArgs e2
  have := hc.2 (okAll C) w (ys.toList.map a.eval) hargs
  have e3 : (ys.map a.eval ++ #[] : Array Value) = (ys.toList.map a.eval).toArray := by rw [Array.append_empty, ← Array.toList_map, Array.toArray_toList]
  rw [e3]
  refine this.mono fun e w' ⟨v, he, hb, hrep⟩ => ?_
  subst he
  have hs' := hs.below hb
  exact hnext _ _ ⟨L, hs'.put o.dst (by rw [hn]; exact dstOk_spec hd) (flatT_spec hr hrep)⟩

/-! ### a call that may hand back what it was given: rows that go in are written no more -/
def frzC (s : St) : Cell → Option (List Upd)
  | .im _ => some []
  | .ip _ => some []
  | .clo _ [] => some []
  | .ref k => (match s.ob k with
    | some (.row e xs) => (match unim xs with | some ys => some [.set k (.fro (.sl e ys))] | none => none)
    | some (.fro _) => some []
    | _ => none)
  | .mp k => (match s.ob k with
    | some (.fro _) => some []
    | _ => none)
  | _ => none
def frzCs (s : St) : List Cell → Option (List Upd)
  | [] => some []
  | c :: r => (match frzC s c, frzCs s r with | some u, some v => some (u ++ v) | _, _ => none)
def frzT (s : St) : TV → Option (List Upd)
  | .c x => frzC s x
  | .g xs => frzCs s xs
  | .t _ => none
def frzArgs (s : St) : List Operand → Option (List Upd)
  | [] => some []
  | y :: r => (match frzT s (s.ev y), frzArgs s r with | some u, some v => some (u ++ v) | _, _ => none)
/-- What is frozen is a row of trees, frozen as it is. -/
def FrzOk (s : St) (Z : List Upd) : Prop := ∀ u ∈ Z, ∃ k e ys, u = .set k (.fro (.sl e ys)) ∧ (s.ob k = some (.row e (imR ys)))
theorem frzC_ok {c : Cell} {Z : List Upd} (h : frzC s c = some Z) : FrzOk s Z := by
  unfold frzC at h
  split at h <;> try (cases h; done)
  · cases h; intro u hu; simp at hu
  · cases h; intro u hu; simp at hu
  · cases h; intro u hu; simp at hu
  · rename_i k
    split at h <;> try (cases h; done)
    · rename_i e xs hob
      split at h <;> try (cases h; done)
      rename_i ys hy
      cases h
      intro u hu
      simp at hu
      subst hu
      exact ⟨k, e, ys, rfl, by rw [hob, unim_spec hy]⟩
    · cases h; intro u hu; simp at hu
  · split at h <;> try (cases h; done)
    cases h; intro u hu; simp at hu
theorem FrzOk.append {Z Y : List Upd} (h : FrzOk s Z) (k : FrzOk s Y) : FrzOk s (Z ++ Y) := fun u hu => (List.mem_append.1 hu).elim (h u) (k u)
theorem frzCs_ok : ∀ {cs : List Cell} {Z : List Upd}, frzCs s cs = some Z → FrzOk s Z
  | [], Z, h => by cases h; intro u hu; simp at hu
  | c :: r, Z, h => by
    simp only [frzCs] at h
    split at h <;> try (cases h; done)
    rename_i u v h1 h2
    cases h
    exact (frzC_ok h1).append (frzCs_ok h2)
theorem frzArgs_ok : ∀ {ys : List Operand} {Z : List Upd}, frzArgs s ys = some Z → FrzOk s Z
  | [], Z, h => by cases h; intro u hu; simp at hu
  | y :: r, Z, h => by
    simp only [frzArgs] at h
    split at h <;> try (cases h; done)
    rename_i u v h1 h2
    cases h
    refine FrzOk.append ?_ (frzArgs_ok h2)
    unfold frzT at h1
    split at h1
    · exact frzC_ok h1
    · exact frzCs_ok h1
    · cases h1
theorem Sim.freeze {a : Act} {w : World} {L : Where} (h : Sim C s a w L) {k : Nat} {e : TypeId} {ys : List (List AV)} (hk : s.ob k = some (.row e (imR ys))) : Sim C (s.putO k (.fro (.sl e ys))) a w L := by
  have hok : ∀ b, okOf C s L b → okOf C (s.putO k (.fro (.sl e ys))) L b := by
    intro b hb
    refine ⟨hb.1, fun j o1 hj ho1 => ?_⟩
    rw [St.ob_putO] at hj
    split at hj
    · cases hj; simp [Obj.owns] at ho1
    · exact hb.2 j o1 hj ho1
  refine h.next rfl rfl (fun _ h => h) (Where.upto_refl _ _) (fun _ _ => rfl) (fun _ => False) rfl rfl ⟨rfl, Nat.le_refl _⟩ (Nat.le_refl _) (fun _ _ _ => rfl) (fun _ hx => hx.elim) (fun b hb _ => hok b hb) ?_ ?_ ?_
  · intro j o1 hj
    rw [St.ob_putO] at hj
    split at hj
    · rename_i e1
      subst e1
      cases hj
      refine .inr ⟨(h.ob _ _ hk).1, ?_⟩
      obtain ⟨_, uss, sz, bs, hi, hs, hb, ho, hblk, hul, hal, hone⟩ := h.ob _ _ hk
      have hlen : (imR ys).length = ys.length := by simp [imR]
      rw [hlen] at hb ho
      show RepA C.P _ w (L.hv k) (.sl e ys)
      rcases ho.2 with ⟨h1, h2⟩ | ⟨g, cap, cur, h1, _, hh, h3, h4, h5, h6⟩
      · obtain rfl := List.eq_nil_of_length_eq_zero h2
        rw [h1]; exact .nil
      · have hb2 : L.blk k = some g := by rw [← hblk, h1]; rfl
        rw [h1]
        refine RepA.mkSl (sz := sz) (bs := bs) (uss := uss) hi hs h3 h4 hb hul (fun q u hq => by rw [add_lit, Nat.zero_add]; exact row_cells ho (by rw [h1]; rfl) q u hq) (fun _ => ?_)
          (hal.of_map_right fun u x hx => (hx.imL).imp fun _ _ h => h.mono fun b hb _ => hok b hb)
        refine ⟨fun hlt => (h.own k _ g hk rfl (.inl hb2)).2.elim (fun h => absurd hlt (Nat.not_lt.2 h)) .inr, fun j o1 hj ho1 he => ?_⟩
        rw [St.ob_putO] at hj
        split at hj
        · cases hj; simp [Obj.owns] at ho1
        · rename_i e1
          exact e1 (h.inj _ _ _ o1 g hk hj rfl ho1 (.inl hb2) he)
    · exact .inl ⟨hj, fun _ _ _ hf => hf⟩
  · intro j j' o1 o2 b hj hj' ho1 ho2 hx hx'
    rw [St.ob_putO] at hj hj'
    split at hj <;> split at hj' <;> first | (cases hj; simp [Obj.owns] at ho1; done) | (cases hj'; simp [Obj.owns] at ho2; done) | exact h.inj j j' o1 o2 b hj hj' ho1 ho2 hx hx'
  · intro j o1 b hj ho1 hx
    rw [St.ob_putO] at hj
    split at hj
    · cases hj; simp [Obj.owns] at ho1
    · exact h.own j o1 b hj ho1 hx
theorem imL_inj : ∀ {x y : List AV}, imL x = imL y → x = y
  | [], [], _ => rfl
  | [], _ :: _, h => by simp [imL] at h
  | _ :: _, [], h => by simp [imL] at h
  | a :: x, b :: y, h => by
    simp only [imL, List.map_cons, List.cons.injEq, Cell.im.injEq] at h
    rw [h.1, imL_inj h.2]
theorem imR_inj : ∀ {x y : List (List AV)}, imR x = imR y → x = y
  | [], [], _ => rfl
  | [], _ :: _, h => by simp [imR] at h
  | _ :: _, [], h => by simp [imR] at h
  | a :: x, b :: y, h => by
    simp only [imR, List.map_cons, List.cons.injEq] at h
    rw [imL_inj h.1, imR_inj h.2]
def Frz (s : St) (k : Nat) (e : TypeId) (ys : List (List AV)) : Prop := s.ob k = some (.row e (imR ys)) ∨ s.ob k = some (.fro (.sl e ys))
def FrzOk2 (s : St) (Z : List Upd) : Prop := ∀ u ∈ Z, ∃ k e ys, u = .set k (.fro (.sl e ys)) ∧ Frz s k e ys
theorem Frz.det {k : Nat} {e e' : TypeId} {ys ys' : List (List AV)} (h : Frz s k e ys) (h' : Frz s k e' ys') : e = e' ∧ ys = ys' := by
  unfold Frz at h h'
  rcases h with h | h <;> rcases h' with h' | h' <;> rw [h] at h' <;> simp only [Option.some.injEq, Obj.row.injEq, Obj.fro.injEq, AV.sl.injEq, reduceCtorEq] at h'
  · exact ⟨h'.1, imR_inj h'.2⟩
  · exact h'
theorem freezes : ∀ (Z : List Upd) {s : St} {a : Act} {w : World} {L : Where}, FrzOk2 s Z → Sim C s a w L → Sim C (s.ups Z) a w L ∧ (∀ i, (s.ups Z).tv i = s.tv i) ∧ ∀ k e ys, Upd.set k (.fro (.sl e ys)) ∈ Z → (s.ups Z).ob k = some (.fro (.sl e ys))
  | [], s, a, w, L, _, hs => ⟨hs, fun _ => rfl, fun _ _ _ h => by simp at h⟩
  | u :: r, s, a, w, L, h, hs => by
    obtain ⟨k, e, ys, rfl, hk⟩ := h u (by simp)
    have h2 : FrzOk2 (s.putO k (.fro (.sl e ys))) r := by
      intro u' hu'
      obtain ⟨k', e', ys', rfl, hk'⟩ := h u' (by simp [hu'])
      refine ⟨k', e', ys', rfl, ?_⟩
      by_cases hkk : k = k'
      · subst hkk
        obtain ⟨rfl, rfl⟩ := hk.det hk'
        exact .inr (by rw [St.ob_putO, if_pos rfl])
      · unfold Frz
        simp only [St.ob_putO, if_neg hkk]
        exact hk'
    have h1 : Sim C (s.putO k (.fro (.sl e ys))) a w L := by
      rcases hk with hk | hk
      · exact hs.freeze hk
      · have eo : ∀ j, (s.putO k (.fro (.sl e ys))).ob j = s.ob j := fun j => by
          rw [St.ob_putO]
          split
          · rename_i e1; subst e1; exact hk.symm
          · rfl
        have eok : okOf C (s.putO k (.fro (.sl e ys))) L = okOf C s L := by funext b; unfold okOf; simp only [eo]
        exact ⟨hs.os, hs.tape, hs.output, hs.size, hs.kept, hs.nt, fun i => by rw [eok]; exact hs.tm i, fun j o1 hj => by rw [eo] at hj; rw [eok]; exact hs.ob j o1 hj, fun j j' o1 o2 b h1 h2 => hs.inj j j' o1 o2 b (eo j ▸ h1) (eo j' ▸ h2), fun j o1 b h1 => hs.own j o1 b (eo j ▸ h1), hs.defers, hs.pin⟩
    obtain ⟨k1, k2, k3⟩ := freezes r h2 h1
    refine ⟨k1, fun i => k2 i, fun k' e' ys' hm => ?_⟩
    rcases List.mem_cons.1 hm with hm | hm
    · injection hm with a1 a2
      injection a2 with a2
      injection a2 with a2 a3
      subst a1; subst a2; subst a3
      by_cases hx : ∃ e2 y2, Upd.set k' (.fro (.sl e2 y2)) ∈ r
      · obtain ⟨e2, y2, hx⟩ := hx
        obtain ⟨k2', e2', y2', he, hf⟩ := h2 _ hx
        injection he with b1 b2
        injection b2 with b2
        injection b2 with b2 b3
        subst b1; subst b2; subst b3
        have hd : Frz (s.putO k' (.fro (.sl e' ys'))) k' e' ys' := .inr (by rw [St.ob_putO, if_pos rfl])
        obtain ⟨c1, c2⟩ := hf.det hd
        subst c1; subst c2
        exact k3 _ _ _ hx
      · show ((s.putO k' (.fro (.sl e' ys'))).ups r).ob k' = _
        rw [ups_ob, lastO_none]
        · simp [St.ob_putO]
        · intro u hu hk'
          obtain ⟨k2', e2', y2', rfl, _⟩ := h2 u hu
          injection hk' with hk'
          subst hk'
          exact hx ⟨_, _, hu⟩
    · exact k3 _ _ _ hm
theorem agree_frzC {F : List Key} {s1 : St} (h : agreeOn F s s1) {c : Cell} (hc : ∀ x ∈ cellK c, x ∈ F) : frzC s1 c = frzC s c := by
  cases c with
  | ref k => have := agree_ob h (hc (.h k) (by simp [cellK])); simp only [frzC, this]
  | mp k => have := agree_ob h (hc (.h k) (by simp [cellK])); simp only [frzC, this]
  | clo f caps => cases caps <;> rfl
  | _ => rfl
theorem agree_frzCs {F : List Key} {s1 : St} (h : agreeOn F s s1) : ∀ {cs : List Cell}, (∀ x ∈ cs.flatMap cellK, x ∈ F) → frzCs s1 cs = frzCs s cs
  | [], _ => rfl
  | c :: r, hc => by
    simp only [frzCs]
    rw [agree_frzC h (c := c) fun x hx => hc x (by simp [List.flatMap_cons, hx]), agree_frzCs h (cs := r) fun x hx => hc x (by simp only [List.flatMap_cons, List.mem_append]; exact .inr hx)]
theorem agree_frzArgs {F : List Key} {s1 : St} (h : agreeOn F s s1) : ∀ {ys : List Operand}, (∀ x ∈ argsK s ys, x ∈ F) → frzArgs s1 ys = frzArgs s ys
  | [], _ => rfl
  | y :: r, hc => by
    have h2 : frzT s1 (s.ev y) = frzT s (s.ev y) := by
      have hk : ∀ x ∈ tvK (s.ev y), x ∈ F := fun x hx => hc x (by simp [argsK, hx])
      cases hv : s.ev y with
      | c x => rw [hv] at hk; simp only [frzT]; exact agree_frzC h hk
      | g xs => rw [hv] at hk; simp only [frzT]; exact agree_frzCs h hk
      | t ys => rfl
    simp only [frzArgs]
    rw [agree_ev h (y := y) fun x hx => hc x (by simp [argsK, hx]), h2, agree_frzArgs h (ys := r) fun x hx => hc x (by simp [argsK, hx])]
theorem frz_imC {a : Act} {w : World} {L : Where} {Z : List Upd} (hz : Sim C (s.ups Z) a w L) (hzo : ∀ k e ys, Upd.set k (.fro (.sl e ys)) ∈ Z → (s.ups Z).ob k = some (.fro (.sl e ys))) (hzn : ∀ u ∈ Z, ∃ k e ys, u = .set k (.fro (.sl e ys)) ∧ s.ob k = some (.row e (imR ys))) {c d : Cell} {Z0 : List Upd} (hf : frzC s c = some Z0) (hsub : ∀ u ∈ Z0, u ∈ Z) (hc : s.imC c = some d) {v : Value} (hv : RepC C.P (okOf C (s.ups Z) L) w (s.ups Z).used L v c) :
    RepC C.P (okOf C (s.ups Z) L) w U0 L0 v d := by
  cases c with
  | im x => cases hc; exact hv
  | ip xs => cases hc; exact hv
  | clo f caps =>
    cases caps with
    | nil =>
      cases hc
      obtain ⟨vs, rfl, h1⟩ := hv
      obtain rfl := h1.nil_right
      exact RepA.flat rfl
    | cons p r => simp only [St.imC] at hc; cases hc
  | ref k =>
    simp only [frzC] at hf
    simp only [St.imC] at hc
    obtain ⟨_, rfl, _⟩ := hv
    split at hf <;> try (cases hf; done)
    · rename_i e xs hob
      rw [hob] at hc
      simp only at hc
      split at hf <;> try (cases hf; done)
      rename_i ys hy
      cases hf
      rw [hy] at hc
      cases hc
      have := hzo k e ys (hsub _ (by simp))
      exact (hz.ob k _ this).2
    · rename_i x hob
      rw [hob] at hc
      cases hc
      have hn : (s.ups Z).ob k = some (.fro x) := by
        rw [ups_ob, lastO_none]
        · exact hob
        · intro u hu hk
          obtain ⟨k', e', ys', rfl, hr⟩ := hzn u hu
          injection hk with hk
          subst hk
          rw [hob] at hr
          cases hr
      exact (hz.ob k _ hn).2
  | mp k =>
    simp only [frzC] at hf
    simp only [St.imC] at hc
    obtain ⟨_, rfl, _⟩ := hv
    split at hf <;> try (cases hf; done)
    rename_i x hob
    rw [hob] at hc
    cases hc
    have hn : (s.ups Z).ob k = some (.fro x) := by
      rw [ups_ob, lastO_none]
      · exact hob
      · intro u hu hk
        obtain ⟨k', e', ys', rfl, hr⟩ := hzn u hu
        injection hk with hk
        subst hk
        rw [hob] at hr
        cases hr
    exact (hz.ob k _ hn).2
  | _ => simp only [frzC] at hf; cases hf
/-- A call whose result may lead into what went in. -/
theorem AX.pcallF {y : Operand} {ys : Array Operand} {ts : Array TypeId} {f : Nat} {args : List TV} {r : TV} {Z : List Upd} (ho : o.op = .call { callee := .value y, args := ys, argTypes := ts }) (hy : fnOf (s.ev y) = some (f, [])) (hz : frzArgs s ys.toList = some Z) (ha : s.imArgs ys.toList = some args) (hc : PCall C.P f args r) (hr : imOnly r = true) (hd : dstOk o.dst s.nt = true)
    (h : K (opK y ++ argsK s ys.toList) (Z ++ dU o.dst r)) : AX C k o s K := by
  refine ⟨_, _, fun s1 hag hn hk => ?_, fun u hu j hj => ?_, h⟩
  · rw [St.ups_append, ups_dU]
    intro a w ⟨L, hs⟩ next Q hnext
    have e1 : s1.ev y = s.ev y := agree_ev hag (by intro x hx; simp [hx])
    have e2 : s1.imArgs ys.toList = some args := by rw [agree_imArgs hag (by intro x hx; simp [hx])]; exact ha
    have e4 : frzArgs s1 ys.toList = some Z := by rw [agree_frzArgs hag (by intro x hx; simp [hx])]; exact hz
    have hfn : a.eval y = .func (.func f) #[] #[] := by
      have hv := hs.ev y
      rw [e1] at hv
      unfold fnOf at hy
      split at hy <;> try (cases hy; done)
      · rename_i f' caps hf
        cases hy
        rw [hf] at hv
        obtain ⟨vs, h1, h2⟩ := hv
        obtain rfl := h2.nil_right
        exact h1
      · rename_i f' first cap hf
        split at hy <;> try (cases hy; done)
        rename_i h1 h2
        cases hy
        rw [hf] at hv
        have := RepA.flat_eq hv
        rw [this]
        have h3 : first = #[] := by cases first; simp at h1; subst h1; rfl
        have h4 : cap = #[] := by cases cap; simp at h2; subst h2; rfl
        rw [h3, h4]
    have hzo := frzArgs_ok e4
    obtain ⟨hs2, htv, hob2⟩ := freezes Z (s := s1) (fun u hu => by obtain ⟨k, e, ys, h1, h2⟩ := hzo u hu; exact ⟨k, e, ys, h1, .inl h2⟩) hs
    have hev : ∀ x, (s1.ups Z).ev x = s1.ev x := fun x => by cases x <;> first | exact htv _ | rfl
    have hargs : ∀ (l : List Operand) (args : List TV) (Y : List Upd), s1.imArgs l = some args → frzArgs s1 l = some Y → (∀ u ∈ Y, u ∈ Z) → Al (RepT C.P (okOf C (s1.ups Z) L) w U0 L0) (l.map a.eval) args := by
      intro l
      induction l with
      | nil => intro args Y h1 _ _; cases h1; exact Al.nil
      | cons x r ih =>
        intro args Y h1 h2 h3
        simp only [St.imArgs] at h1
        simp only [frzArgs] at h2
        split at h1 <;> try (cases h1; done)
        rename_i d l' h4 h5
        cases h1
        split at h2 <;> try (cases h2; done)
        rename_i u v h6 h7
        cases h2
        refine Al.cons ?_ (ih _ _ h5 h7 fun w hw => h3 w (by simp [hw]))
        have hv := hs2.ev x
        rw [hev] at hv
        cases htx : s1.ev x with
        | c c =>
          rw [htx] at h4 h6 hv
          simp only [St.imT] at h4
          split at h4 <;> try (cases h4; done)
          rename_i d' h8
          cases h4
          exact frz_imC hs2 hob2 hzo h6 (fun w hw => h3 w (by simp [hw])) h8 hv
        | g cs =>
          rw [htx] at h4 h6 hv
          simp only [St.imT] at h4
          split at h4 <;> try (cases h4; done)
          rename_i ds h8
          cases h4
          obtain ⟨vs, hv1, hv2⟩ := hv
          refine ⟨vs, hv1, ?_⟩
          have : ∀ (cs ds : List Cell) (Y : List Upd) (vs : List Value), s1.imCs cs = some ds → frzCs s1 cs = some Y → (∀ u ∈ Y, u ∈ Z) → Al (RepC C.P (okOf C (s1.ups Z) L) w (s1.ups Z).used L) vs cs → Al (RepC C.P (okOf C (s1.ups Z) L) w U0 L0) vs ds := by
            intro cs
            induction cs with
            | nil => intro ds Y vs h1 _ _ h4; cases h1; obtain rfl := h4.nil_right; exact Al.nil
            | cons c r ih =>
              intro ds Y vs h1 h2 h3 h4
              simp only [St.imCs] at h1
              simp only [frzCs] at h2
              split at h1 <;> try (cases h1; done)
              rename_i d l' h5 h6
              cases h1
              split at h2 <;> try (cases h2; done)
              rename_i u v h7 h8
              cases h2
              obtain ⟨v1, vr, rfl, k1, k2⟩ := h4.cons_right
              exact Al.cons (frz_imC hs2 hob2 hzo h7 (fun w hw => h3 w (by simp [hw])) h5 k1) (ih _ _ _ h6 h8 (fun w hw => h3 w (by simp [hw])) k2)
          exact this cs ds u vs h8 h6 (fun w hw => h3 w (by simp [hw])) hv2
        | t ts => rw [htx] at h4; cases h4
    unfold Oper.wp
    rw [run_call ho hfn hc.1]
    show Calls C.P f _ w _
    have := hc.2 (okOf C (s1.ups Z) L) w (ys.toList.map a.eval) (hargs _ _ _ e2 e4 fun _ h => h)
    have e3 : (ys.map a.eval ++ #[] : Array Value) = (ys.toList.map a.eval).toArray := by rw [Array.append_empty, ← Array.toList_map, Array.toArray_toList]
    rw [e3]
    refine this.mono fun e w' ⟨v, he, hb, hrep⟩ => ?_
    subst he
    have hs' := hs2.below hb
    refine hnext _ _ ⟨L, hs'.put o.dst (by rw [ups_nt, hn]; exact dstOk_spec hd) (imOnly_spec hr hrep fun b hb2 hlt => ?_)⟩
    by_cases hlt2 : b < w.heap.size
    · exact hb2 hlt2
    · refine ⟨fun h0 => absurd (Nat.lt_of_lt_of_le h0 hs2.size) hlt2, fun j o1 hj ho1 he => hlt2 (hs2.own j o1 b hj ho1 he).1⟩
  · rcases List.mem_append.1 hu with hu | hu
    · obtain ⟨k', e', ys', rfl, _⟩ := frzArgs_ok hz u hu
      exact hj.elim
    · exact (given_dU u hu j hj).elim
end
end Go.Exe
