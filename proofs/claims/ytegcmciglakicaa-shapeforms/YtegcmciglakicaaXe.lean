/-
  Xe: one operation at a time, the third part: addresses, elements, slices, numbers, strings.
-/
import Derived.Test.YtegcmciglakicaaXd
import Derived.Laws.Strings
namespace Go.Exe
open Go.RowKit
set_option linter.unusedVariables false
set_option linter.unusedSimpArgs false

theorem run_equal_bool {P : Program} {t : TypeId} {w : World} (ht : P.underlying t = some .bool) (a b : Bool) : (Op.equal t (.bool a) (.bool b)).run P w = .ok (a == b) w := by
  have key : ∀ d, (Op.equalIn (d + 1) t (.bool a) (.bool b)).run P w = .ok (a == b) w := fun d => by
    unfold Op.equalIn
    simp [run_underlying ht, Sem.run_bind]
  exact key 9999
theorem run_equal_nil {P : Program} {t e : TypeId} {w : World} (ht : P.underlying t = some (.pointer e)) (a : Option Addr) : (Op.equal t (.pointer a) (.pointer none)).run P w = .ok a.isNone w := by
  have key : ∀ d, (Op.equalIn (d + 1) t (.pointer a) (.pointer none)).run P w = .ok a.isNone w := fun d => by
    unfold Op.equalIn
    cases a <;> simp [run_underlying ht, Sem.run_bind]
  exact key 9999
theorem RepA.flat_eq {P : Program} {ok : Nat → Prop} {w : World} {v u : Value} (h : RepA P ok w v (.flat u)) : v = u := by cases h; rfl
section ops
variable {C : Ctx} {o : Oper} {s s1 : St} {x : TV}
/-- The address of a field. -/
def offC (k : Nat) : Cell → Option Cell
  | .ptr b o => some (.ptr b (o + k))
  | .rp b sz j o => some (.rp b sz j (o + k))
  | .ip xs => bif Nat.ble k xs.length then some (.ip (xs.drop k)) else none
  | .im (.pt xs) => bif Nat.ble k xs.length then some (.ip (xs.drop k)) else none
  | _ => none
theorem offC_sound {P : Program} {ok : Nat → Prop} {w : World} {U : Nat → Prop} {L : Where} {v : Value} {c d : Cell} {k : Nat} (h : RepC P ok w U L v c) (hk : offC k c = some d) : ∃ a, v = .pointer (some a) ∧ RepC P ok w U L (.pointer (some (a.add k))) d := by
  cases c <;> simp only [offC] at hk <;> try (cases hk; done)
  case ptr b o => cases hk; obtain ⟨h1, g, h2, rfl⟩ := h; exact ⟨_, rfl, h1, g, h2, by rw [add_lit]⟩
  case rp b sz j o => cases hk; obtain ⟨h1, g, h2, rfl⟩ := h; exact ⟨_, rfl, h1, g, h2, by rw [add_lit, Nat.add_assoc]⟩
  case ip xs =>
    cases hle : Nat.ble k xs.length <;> simp only [hle, cond_true, cond_false] at hk <;> cases hk
    obtain ⟨a, us, rfl, h1, h2, h3⟩ := h
    refine ⟨a, rfl, a.add k, us.drop k, rfl, fun i u hi => ?_, h2.drop k, fun h0 => ?_⟩
    · rw [List.getElem?_drop] at hi
      rw [add_add]; exact h1 _ u hi
    · rw [add_block]; exact h3 (by rw [List.length_drop] at h0; omega)
  case im x =>
    cases x <;> simp only at hk <;> try (cases hk; done)
    rename_i xs
    cases hle : Nat.ble k xs.length <;> simp only [hle, cond_true, cond_false] at hk <;> cases hk
    obtain ⟨a, us, rfl, h1, h2, h3⟩ := RepA.toIp (U := U) (L := L) h
    refine ⟨a, rfl, a.add k, us.drop k, rfl, fun i u hi => ?_, h2.drop k, fun h0 => ?_⟩
    · rw [List.getElem?_drop] at hi
      rw [add_add]; exact h1 _ u hi
    · rw [add_block]; exact h3 (by rw [List.length_drop] at h0; omega)
theorem ok_fieldAddr {t : TypeId} {y : Operand} {f k : Nat} {c d : Cell} (ho : o.op = .fieldAddr t y f) (hy : s.ev y = .c c) (hf : FO C.P t f = some k) (hc : offC k c = some d) (hd : ∀ i, o.dst = some i → i < s.nt) : OpOk C o s (s.put o.dst (.c d)) := by
  obtain ⟨fs, xf, i, h1, h2, h3, h4, h5⟩ := FO_spec hf
  refine opOk_same hd fun a w L hs => ?_
  have hv := hs.ev y
  rw [hy] at hv
  obtain ⟨ad, e, hr⟩ := offC_sound hv hc
  refine ⟨_, ?_, hr⟩
  unfold execOp
  simp [ho, e, Instr.fieldAt, Instr.sureAddr, fieldPlace, Sem.run_bind, run_underlying h1, h2, sizeOf, typeInfo, h3, h4, h5]
theorem ok_nilCheck {y : Operand} {c : Cell} (ho : o.op = .nilCheck y) (hy : s.ev y = .c c) (hc : (offC 0 c).isSome = true) (hd : ∀ i, o.dst = some i → i < s.nt) : OpOk C o s (s.put o.dst (.c c)) := by
  refine opOk_same hd fun a w L hs => ?_
  have hv := hs.ev y
  rw [hy] at hv
  obtain ⟨d, hd⟩ := Option.isSome_iff_exists.1 hc
  obtain ⟨ad, e, _⟩ := offC_sound hv hd
  refine ⟨a.eval y, ?_, hv⟩
  unfold execOp
  simp [ho, e]
/-- A component of a tuple. -/
def compTV : Bool × List Cell → TV
  | (true, cs) => .g cs
  | (false, cs) => .c (cs.headD .dead)
theorem RepT1.toT {P : Program} {ok : Nat → Prop} {w : World} {U : Nat → Prop} {L : Where} {v : Value} {y : Bool × List Cell} (h : RepT1 P ok w U L v y) : RepT P ok w U L v (compTV y) := by
  obtain ⟨b, cs⟩ := y
  unfold RepT1 at h
  cases b with
  | true => exact h
  | false => obtain ⟨c, rfl, hc⟩ := h; exact hc
theorem ok_extract {y : Operand} {j : Nat} {ys : List (Bool × List Cell)} {z : Bool × List Cell} (ho : o.op = .extract y j) (hy : s.ev y = .t ys) (hz : ys[j]? = some z) (hd : ∀ i, o.dst = some i → i < s.nt) : OpOk C o s (s.put o.dst (compTV z)) := by
  refine opOk_same hd fun a w L hs => ?_
  have hv := hs.ev y
  rw [hy] at hv
  obtain ⟨vs, e, hal⟩ := hv
  obtain ⟨v, h1, h2⟩ := hal.get_right hz
  refine ⟨v, ?_, h2.toT⟩
  unfold execOp
  simp [ho, e, Instr.extract, h1]
theorem ok_pick {c y z : Operand} {b : Bool} (ho : o.op = .pick c y z) (hc : s.ev c = .c (.im (.flat (.bool b)))) (hd : ∀ i, o.dst = some i → i < s.nt) : OpOk C o s (s.put o.dst (if b = true then s.ev y else s.ev z)) := by
  refine opOk_same hd fun a w L hs => ?_
  have hv := hs.ev c
  rw [hc] at hv
  have e : a.eval c = .bool b := RepA.flat_eq hv
  refine ⟨if b = true then a.eval y else a.eval z, ?_, ?_⟩
  · unfold execOp
    cases b <;> simp [ho, e, asBool]
  · cases b
    · exact hs.ev z
    · exact hs.ev y
/-- A function value. -/
def capsOf (s : St) : List Operand → Option (List (Nat × Nat))
  | [] => some []
  | y :: r => match s.ev y with
    | .c (.ptr k o) => (match capsOf s r with | some l => some ((k, o) :: l) | none => none)
    | _ => none
theorem Sim.caps {a : Act} {w : World} {L : Where} (h : Sim C s a w L) : ∀ {ys : List Operand} {l : List (Nat × Nat)}, capsOf s ys = some l → Al (fun u (p : Nat × Nat) => s.used p.1 ∧ ∃ b, L.blk p.1 = some b ∧ u = .pointer (some ⟨b, p.2, none⟩)) (ys.map a.eval) l
  | [], l, hl => by simp [capsOf] at hl; subst hl; exact Al.nil
  | y :: r, l, hl => by
    simp only [capsOf] at hl
    split at hl
    · rename_i k off hy
      split at hl
      · rename_i l' hl'
        cases hl
        have hv := h.ev y
        rw [hy] at hv
        exact Al.cons hv (h.caps hl')
      · cases hl
    · cases hl
theorem ok_makeFunc {f : Nat} {ys : Array Operand} {l : List (Nat × Nat)} (ho : o.op = .makeFunc (.func f) #[] ys) (hl : capsOf s ys.toList = some l) (hd : ∀ i, o.dst = some i → i < s.nt) : OpOk C o s (s.put o.dst (.c (.clo f l))) := by
  refine opOk_same hd fun a w L hs => ?_
  refine ⟨.func (.func f) #[] (ys.map a.eval), ?_, ys.toList.map a.eval, by rw [← Array.toList_map, Array.toArray_toList], hs.caps hl⟩
  unfold execOp
  simp [ho, Instr.makeFunc]

/-! ### flat values -/
theorem ev_flat {a : Act} {w : World} {L : Where} {v : Value} {y : Operand} (h : Sim C s a w L) (hy : s.ev y = .c (.im (.flat v))) : a.eval y = v := by
  have := h.ev y
  rw [hy] at this
  exact RepA.flat_eq this
theorem opOk_flat {v : Value} (h1 : v.oneCell' = true) (hd : ∀ i, o.dst = some i → i < s.nt) (h : ∀ a w L, Sim C s a w L → (execOp a.eval o).run C.P w = .ok (.value v) w) : OpOk C o s (s.put o.dst (.c (.im (.flat v)))) :=
  opOk_same hd fun a w L hs => ⟨v, h a w L hs, RepA.flat h1⟩
/-- What an operator gives on flat values, and under which condition. -/
def bopI (op : BinOp) (k : IntKind) (a b : Int) : Option (Prop × Value) :=
  match op with
  | .add => some (True, .int k (k.wrap (a + b)))
  | .sub => some (True, .int k (k.wrap (a - b)))
  | .mul => some (True, .int k (k.wrap (a * b)))
  | .quo => some (b ≠ 0, .int k (k.wrap (a.tdiv b)))
  | .rem => some (b ≠ 0, .int k (a.tmod b))
  | .eql => some (True, .bool (a == b))
  | .neq => some (True, .bool (a != b))
  | .lss => some (True, .bool (decide (a < b)))
  | .leq => some (True, .bool (decide (a ≤ b)))
  | .gtr => some (True, .bool (decide (a > b)))
  | .geq => some (True, .bool (decide (a ≥ b)))
  | _ => none
def bopS (op : BinOp) (a b : ByteArray) : Option (Prop × Value) :=
  match op with
  | .add => some (a.size + b.size ≤ 9223372036854775807, .string (a ++ b))
  | .eql => some (True, .bool (a.toList == b.toList))
  | .neq => some (True, .bool (!(a.toList == b.toList)))
  | .lss => some (True, .bool (Op.bytesLess a.toList b.toList))
  | .leq => some (True, .bool (Op.bytesLess a.toList b.toList || a.toList == b.toList))
  | .gtr => some (True, .bool (!(Op.bytesLess a.toList b.toList || a.toList == b.toList)))
  | .geq => some (True, .bool (!Op.bytesLess a.toList b.toList))
  | _ => none
theorem ok_binI {op : BinOp} {t t' : TypeId} {y z : Operand} {k : IntKind} {a b : Int} {p : Prop} {v : Value} (ho : o.op = .binOp op t y z t') (hy : s.ev y = .c (.im (.flat (.int k a)))) (hz : s.ev z = .c (.im (.flat (.int k b)))) (hv : bopI op k a b = some (p, v)) (hp : p) (hd : ∀ i, o.dst = some i → i < s.nt) :
    OpOk C o s (s.put o.dst (.c (.im (.flat v)))) := by
  have h1 : v.oneCell' = true := by cases op <;> dsimp only [bopI] at hv <;> cases hv <;> rfl
  refine opOk_flat h1 hd fun ac w L hs => ?_
  unfold execOp
  cases op <;> dsimp only [bopI] at hv <;> cases hv <;> simp [ho, ev_flat hs hy, ev_flat hs hz, eqGuard, binOp, Op.intArith, Op.intDiv, Op.intCmp, Sem.run_bind, hp]
theorem ok_binS {op : BinOp} {t t' : TypeId} {y z : Operand} {a b : ByteArray} {p : Prop} {v : Value} (ho : o.op = .binOp op t y z t') (hy : s.ev y = .c (.im (.flat (.string a)))) (hz : s.ev z = .c (.im (.flat (.string b)))) (hv : bopS op a b = some (p, v)) (hp : p) (hd : ∀ i, o.dst = some i → i < s.nt) :
    OpOk C o s (s.put o.dst (.c (.im (.flat v)))) := by
  have h1 : v.oneCell' = true := by cases op <;> dsimp only [bopS] at hv <;> cases hv <;> rfl
  refine opOk_flat h1 hd fun ac w L hs => ?_
  unfold execOp
  cases op <;> dsimp only [bopS] at hv <;> cases hv <;> simp [ho, ev_flat hs hy, ev_flat hs hz, eqGuard, binOp, Op.stringOp, Sem.run_bind]
  omega
/-- '==' of bools. -/
theorem ok_binB {op : BinOp} {t t' : TypeId} {y z : Operand} {a b : Bool} (ht : C.P.underlying t = some .bool) (hop : op = .eql ∨ op = .neq) (ho : o.op = .binOp op t y z t') (hy : s.ev y = .c (.im (.flat (.bool a)))) (hz : s.ev z = .c (.im (.flat (.bool b)))) (hd : ∀ i, o.dst = some i → i < s.nt) :
    OpOk C o s (s.put o.dst (.c (.im (.flat (.bool (if op = .eql then a == b else !(a == b))))))) := by
  refine opOk_flat rfl hd fun ac w L hs => ?_
  unfold execOp
  rcases hop with rfl | rfl <;> simp [ho, ev_flat hs hy, ev_flat hs hz, eqGuard, binOp, run_equal_bool ht, Sem.run_bind]
/-- Is it nil? -/
def nilTest : Cell → Option Bool
  | .im (.flat (.pointer none)) => some true
  | .im (.flat (.map none)) => some true
  | .ptr _ _ => some false
  | .rp _ _ _ _ => some false
  | .ip _ => some false
  | .mp _ => some false
  | _ => none
theorem ok_nilEq {op : BinOp} {t t' : TypeId} {y z : Operand} {c : Cell} {b : Bool} {e : TypeId} (ht : C.P.underlying t = some (.pointer e)) (hop : op = .eql ∨ op = .neq) (ho : o.op = .binOp op t y z t') (hy : s.ev y = .c c) (hz : s.ev z = .c (.im (.flat (.pointer none)))) (hc : nilTest c = some b) (hm : ∀ k, c ≠ .mp k) (hm2 : c ≠ .im (.flat (.map none))) (hd : ∀ i, o.dst = some i → i < s.nt) :
    OpOk C o s (s.put o.dst (.c (.im (.flat (.bool (if op = .eql then b else !b)))))) := by
  refine opOk_flat rfl hd fun ac w L hs => ?_
  have hv := hs.ev y
  rw [hy] at hv
  have key : ac.eval y = .pointer none ∧ b = true ∨ ∃ a, ac.eval y = .pointer (some a) ∧ b = false := by
    unfold nilTest at hc
    split at hc <;> cases hc
    · exact .inl ⟨RepA.flat_eq hv, rfl⟩
    · exact absurd rfl hm2
    · obtain ⟨_, g, _, h⟩ := hv; exact .inr ⟨_, h, rfl⟩
    · obtain ⟨_, g, _, h⟩ := hv; exact .inr ⟨_, h, rfl⟩
    · obtain ⟨a, us, h, _⟩ := hv; exact .inr ⟨_, h, rfl⟩
    · exact absurd rfl (hm _)
  unfold execOp
  rcases key with ⟨h, rfl⟩ | ⟨a, h, rfl⟩ <;> rcases hop with rfl | rfl <;> simp [ho, h, ev_flat hs hz, eqGuard, binOp, run_equal_nil ht, Sem.run_bind]
theorem ok_not {t : TypeId} {y : Operand} {b : Bool} (ho : o.op = .unOp .not t y) (hy : s.ev y = .c (.im (.flat (.bool b)))) (hd : ∀ i, o.dst = some i → i < s.nt) : OpOk C o s (s.put o.dst (.c (.im (.flat (.bool (!b)))))) := by
  refine opOk_flat rfl hd fun ac w L hs => ?_
  unfold execOp
  simp [ho, ev_flat hs hy, Op.unary]
theorem ok_neg {t : TypeId} {y : Operand} {k : IntKind} {n : Int} (ho : o.op = .unOp .neg t y) (hy : s.ev y = .c (.im (.flat (.int k n)))) (hd : ∀ i, o.dst = some i → i < s.nt) : OpOk C o s (s.put o.dst (.c (.im (.flat (.int k (k.wrap (0 - n))))))) := by
  refine opOk_flat rfl hd fun ac w L hs => ?_
  unfold execOp
  simp [ho, ev_flat hs hy, Op.unary, Op.intArith]
theorem ok_convI {t u : TypeId} {y : Operand} {k k' : IntKind} {n : Int} {d : TypeDesc} (ht : C.P.underlying t = some d) (hu : C.P.underlying u = some (.int k')) (ho : o.op = .convert t u y) (hy : s.ev y = .c (.im (.flat (.int k n)))) (hd : ∀ i, o.dst = some i → i < s.nt) : OpOk C o s (s.put o.dst (.c (.im (.flat (.int k' (k'.wrap n)))))) := by
  refine opOk_flat rfl hd fun ac w L hs => ?_
  unfold execOp
  simp [ho, ev_flat hs hy, convert, run_underlying ht, run_underlying hu, Sem.run_bind, Conv.intToInt]
theorem ok_convS {t u : TypeId} {y : Operand} {n : ByteArray} {d : TypeDesc} (ht : C.P.underlying t = some d) (hu : C.P.underlying u = some .string) (ho : o.op = .convert t u y) (hy : s.ev y = .c (.im (.flat (.string n)))) (hd : ∀ i, o.dst = some i → i < s.nt) : OpOk C o s (s.put o.dst (.c (.im (.flat (.string n))))) := by
  refine opOk_flat rfl hd fun ac w L hs => ?_
  unfold execOp
  simp [ho, ev_flat hs hy, convert, run_underlying ht, run_underlying hu, Sem.run_bind]
/-- max and min of whole numbers. -/
def intsOf (s : St) (k : IntKind) : List Operand → Option (List Int)
  | [] => some []
  | y :: r => match s.ev y with
    | .c (.im (.flat (.int k' n))) => bif k == k' then (match intsOf s k r with | some l => some (n :: l) | none => none) else none
    | _ => none
theorem ints_eval {a : Act} {w : World} {L : Where} (h : Sim C s a w L) (k : IntKind) : ∀ {ys : List Operand} {l : List Int}, intsOf s k ys = some l → ys.map a.eval = l.map (Value.int k)
  | [], l, hl => by simp [intsOf] at hl; subst hl; rfl
  | y :: r, l, hl => by
    simp only [intsOf] at hl
    split at hl
    · rename_i k' n hy
      cases hk : (k == k') <;> simp only [hk, cond_true, cond_false] at hl
      · cases hl
      · split at hl
        · rename_i l' hl'
          cases hl
          have : k = k' := by simpa using hk
          subst this
          simp [ev_flat h hy, ints_eval h k hl']
        · cases hl
    · cases hl
def maxL : Int → List Int → Int
  | m, [] => m
  | m, n :: r => maxL (if n > m then n else m) r
def minL : Int → List Int → Int
  | m, [] => m
  | m, n :: r => minL (if n < m then n else m) r
theorem run_maxL (P : Program) (k : IntKind) (w : World) : ∀ (l : List Int) (m : Int), ((l.map (Value.int k)).foldlM Builtin.max2 (Value.int k m)).run P w = .ok (.int k (maxL m l)) w
  | [], m => rfl
  | n :: r, m => by
    simp only [List.map_cons, List.foldlM_cons, Builtin.max2, Sem.run_bind, pure_bind]
    exact run_maxL P k w r _
theorem run_minL (P : Program) (k : IntKind) (w : World) : ∀ (l : List Int) (m : Int), ((l.map (Value.int k)).foldlM Builtin.min2 (Value.int k m)).run P w = .ok (.int k (minL m l)) w
  | [], m => rfl
  | n :: r, m => by
    simp only [List.map_cons, List.foldlM_cons, Builtin.min2, Sem.run_bind, pure_bind]
    exact run_minL P k w r _
theorem ok_max {ys : Array Operand} {ts : Array TypeId} {k : IntKind} {n : Int} {l : List Int} (ho : o.op = .call { callee := .builtin .max, args := ys, argTypes := ts }) (hl : intsOf s k ys.toList = some (n :: l)) (hd : ∀ i, o.dst = some i → i < s.nt) : OpOk C o s (s.put o.dst (.c (.im (.flat (.int k (maxL n l)))))) := by
  refine opOk_flat rfl hd fun ac w L hs => ?_
  have he := ints_eval hs k hl
  unfold execOp
  simp [ho, resolve, invoke, builtin, Builtin.max_, he, Sem.run_bind, run_maxL]
theorem ok_min {ys : Array Operand} {ts : Array TypeId} {k : IntKind} {n : Int} {l : List Int} (ho : o.op = .call { callee := .builtin .min, args := ys, argTypes := ts }) (hl : intsOf s k ys.toList = some (n :: l)) (hd : ∀ i, o.dst = some i → i < s.nt) : OpOk C o s (s.put o.dst (.c (.im (.flat (.int k (minL n l)))))) := by
  refine opOk_flat rfl hd fun ac w L hs => ?_
  have he := ints_eval hs k hl
  unfold execOp
  simp [ho, resolve, invoke, builtin, Builtin.min_, he, Sem.run_bind, run_minL]

/-! ### slices and strings: length, element, part -/
/-- The elements behind a value, told as a slice of e. -/
def AV.els (e : TypeId) : AV → Option (List (List AV))
  | .sl e' xs => bif Nat.beq e e' then some xs else none
  | .sn e' xs => bif Nat.beq e e' then some xs else none
  | .flat (.slice none 0 0) => some []
  | _ => none
theorem AV.els_sound {P : Program} {ok : Nat → Prop} {w : World} {v : Value} {x : AV} {e : TypeId} {xs : List (List AV)} (h : RepA P ok w v x) (hx : x.els e = some xs) : RepA P ok w v (.sl e xs) := by
  unfold AV.els at hx
  split at hx
  · rename_i e' ys
    cases he : Nat.beq e e' <;> simp only [he, cond_true, cond_false] at hx <;> cases hx
    rw [beq_t he]; exact h
  · rename_i e' ys
    cases he : Nat.beq e e' <;> simp only [he, cond_true, cond_false] at hx <;> cases hx
    rw [beq_t he]
    cases h with
    | sn h _ => exact h
  · cases hx; rw [RepA.flat_eq h]; exact .nil
  · cases hx
/-- How long it is. -/
def St.len (s : St) (e : TypeId) : Cell → Option Nat
  | .im x => (x.els e).map (·.length)
  | .ref k => match s.ob k with
    | some (.row _ xs) => some xs.length
    | some (.nrow _ xs) => some xs.length
    | some (.fro x) => (x.els e).map (·.length)
    | _ => none
  | .vw _ _ _ n => some n
  | _ => none
theorem ownsRow_slice {w : World} {b : Nat} {e : TypeId} {sz n : Nat} {v : Value} {us : List Value} (h : w.ownsRow b e sz v n us) : ∃ a c, v = .slice a n c ∧ n ≤ c ∧ c ≤ maxLen := by
  rcases h.2 with ⟨rfl, rfl⟩ | ⟨g, cap, cur, rfl, _, _, h1, h2, _⟩
  · exact ⟨_, _, rfl, Nat.le_refl _, Nat.zero_le _⟩
  · exact ⟨_, _, rfl, h1, h2⟩
theorem Sim.len {a : Act} {w : World} {L : Where} (h : Sim C s a w L) {c : Cell} {e : TypeId} {n : Nat} (hn : s.len e c = some n) {v : Value} (hv : RepC C.P (okOf C s L) w s.used L v c) : ∃ ad cap, v = .slice ad n cap := by
  cases c <;> simp only [St.len] at hn <;> try (cases hn; done)
  case im x =>
    obtain ⟨xs, hx, rfl⟩ := Option.map_eq_some_iff.1 hn
    obtain ⟨ad, m, c, rfl, hl, _⟩ := (AV.els_sound hv hx).openSl
    exact ⟨ad, c, by rw [hl]⟩
  case ref k =>
    obtain ⟨_, rfl, _⟩ := hv
    split at hn
    · rename_i e xs hob
      cases hn
      obtain ⟨_, uss, sz, bs, _, _, _, ho, _⟩ := h.ob k _ hob
      obtain ⟨ad, c, h1, _⟩ := ownsRow_slice ho
      exact ⟨ad, c, h1⟩
    · rename_i e xs hob
      cases hn
      obtain ⟨_, uss, sz, bs, _, _, _, ho, _⟩ := h.ob k _ hob
      obtain ⟨ad, c, h1, _⟩ := ownsRow_slice ho
      exact ⟨ad, c, h1⟩
    · rename_i x hob
      obtain ⟨xs, hx, rfl⟩ := Option.map_eq_some_iff.1 hn
      obtain ⟨_, hr⟩ := h.ob k _ hob
      obtain ⟨ad, m, c, h1, hl, _⟩ := (AV.els_sound hr hx).openSl
      exact ⟨ad, c, by rw [h1, hl]⟩
    · cases hn
  case vw k sz lo m =>
    cases hn
    obtain ⟨_, ad, c, rfl, _⟩ := hv
    exact ⟨ad, c, rfl⟩
theorem ok_len {y : Operand} {t e : TypeId} {c : Cell} {n : Nat} (ho : o.op = .call { callee := .builtin .len, args := #[y], argTypes := #[t] }) (ht : EL C.P t = some e) (hy : s.ev y = .c c) (hn : s.len e c = some n) (hd : ∀ i, o.dst = some i → i < s.nt) : OpOk C o s (s.put o.dst (.c (.im (.flat (.int .i64 (n : Int)))))) := by
  refine opOk_flat rfl hd fun ac w L hs => ?_
  have hv := hs.ev y
  rw [hy] at hv
  obtain ⟨ad, cap, h⟩ := hs.len hn hv
  unfold execOp
  simp [ho, resolve, invoke, builtin, Builtin.len_, h, Sem.run_bind, run_underlying (EL_spec ht), goInt]
theorem ok_lenS {y : Operand} {t : TypeId} {b : ByteArray} (ho : o.op = .call { callee := .builtin .len, args := #[y], argTypes := #[t] }) (ht : C.P.underlying t = some .string) (hy : s.ev y = .c (.im (.flat (.string b)))) (hd : ∀ i, o.dst = some i → i < s.nt) : OpOk C o s (s.put o.dst (.c (.im (.flat (.int .i64 (b.size : Int)))))) := by
  refine opOk_flat rfl hd fun ac w L hs => ?_
  unfold execOp
  simp [ho, resolve, invoke, builtin, Builtin.len_, ev_flat hs hy, Sem.run_bind, run_underlying ht, goInt]
/-- The address of an element. -/
def St.elemAt (s : St) (e sz : Nat) (j : Nat) : Cell → Option Cell
  | .im x => match x.els e with
    | some xs => (xs[j]?).map .ip
    | none => none
  | .ref k => match s.ob k with
    | some (.row e' xs) => bif Nat.beq e e' && Nat.blt j xs.length then some (.rp k sz j 0) else none
    | some (.nrow e' xs) => bif Nat.beq e e' && Nat.blt j xs.length then some (.rp k sz j 0) else none
    | some (.fro x) => (match x.els e with | some xs => (xs[j]?).map .ip | none => none)
    | _ => none
  | .vw k sz' lo n => bif Nat.beq sz sz' && Nat.blt j n then some (.rp k sz (lo + j) 0) else none
  | _ => none
theorem elem_im {P : Program} {ok : Nat → Prop} {w : World} {U : Nat → Prop} {L : Where} {v : Value} {e sz bs j : Nat} {xs : List (List AV)} {x : List AV} (hi : EInfo P e = some (sz, bs)) (h : RepA P ok w v (.sl e xs)) (hx : xs[j]? = some x) : ∃ ad n c, v = .slice (some ad) n c ∧ j < n ∧ RepC P ok w U L (.pointer (some (ad.add (j * sz)))) (.ip x) := by
  obtain ⟨a, n, c, rfl, hl, hc, hm, h⟩ := h.openSl
  have hj : j < n := by rw [← hl]; exact (List.getElem?_eq_some_iff.1 hx).1
  rcases h with ⟨_, h0, _⟩ | ⟨ad, sz', bs', rfl, uss, hi', hs, hb, hul, hcell, hok, hal⟩
  · omega
  · rw [hi] at hi'
    cases hi'
    obtain ⟨u, hu, hux⟩ := hal.get_right hx
    refine ⟨ad, n, c, rfl, hj, ad.add (j * sz), u, rfl, fun i y hy => ?_, hux, fun _ => by rw [add_block]; exact hok (by omega)⟩
    rw [add_add]
    refine hcell _ _ ?_
    have hlt : i < sz := by rw [← hul u (List.mem_of_getElem? hu)]; exact (List.getElem?_eq_some_iff.1 hy).1
    rw [flatten_get uss hul j i hlt, hu]
    exact hy
theorem Sim.elemAt {a : Act} {w : World} {L : Where} (h : Sim C s a w L) {c d : Cell} {e sz bs j : Nat} (hi : EInfo C.P e = some (sz, bs)) (hn : s.elemAt e sz j c = some d) {v : Value} (hv : RepC C.P (okOf C s L) w s.used L v c) :
    ∃ ad n cap, v = .slice (some ad) n cap ∧ j < n ∧ RepC C.P (okOf C s L) w s.used L (.pointer (some (ad.add (j * sz)))) d := by
  cases c <;> simp only [St.elemAt] at hn <;> try (cases hn; done)
  case im x =>
    split at hn
    · rename_i xs hx
      obtain ⟨y, hy, rfl⟩ := Option.map_eq_some_iff.1 hn
      exact elem_im hi (AV.els_sound hv hx) hy
    · cases hn
  case ref k =>
    obtain ⟨hu, rfl, _⟩ := hv
    split at hn
    · rename_i e' xs hob
      cases hle : (Nat.beq e e' && Nat.blt j xs.length) <;> simp only [hle, cond_true, cond_false] at hn <;> cases hn
      simp only [Bool.and_eq_true] at hle
      have he := beq_t hle.1
      subst he
      have hj : j < xs.length := Nat.le_of_ble_eq_true hle.2
      obtain ⟨_, uss, sz', bs', hi', hs, _, ho, hb, _⟩ := h.ob k _ hob
      rw [hi] at hi'
      cases hi'
      rcases ho.2 with ⟨e1, e2⟩ | ⟨g, cap, cur, e1, _⟩
      · omega
      · refine ⟨⟨g, 0, none⟩, _, cap, e1, hj, hu, g, ?_, by rw [add_lit]; simp⟩
        rw [← hb, e1]; rfl
    · rename_i e' xs hob
      cases hle : (Nat.beq e e' && Nat.blt j xs.length) <;> simp only [hle, cond_true, cond_false] at hn <;> cases hn
      simp only [Bool.and_eq_true] at hle
      have he := beq_t hle.1
      subst he
      have hj : j < xs.length := Nat.le_of_ble_eq_true hle.2
      obtain ⟨_, uss, sz', bs', hi', hs, _, ho, hb, _⟩ := h.ob k _ hob
      rw [hi] at hi'
      cases hi'
      rcases ho.2 with ⟨e1, e2⟩ | ⟨g, cap, cur, e1, _⟩
      · omega
      · refine ⟨⟨g, 0, none⟩, _, cap, e1, hj, hu, g, ?_, by rw [add_lit]; simp⟩
        rw [← hb, e1]; rfl
    · rename_i x hob
      split at hn
      · rename_i xs hx
        obtain ⟨y, hy, rfl⟩ := Option.map_eq_some_iff.1 hn
        exact elem_im hi (AV.els_sound (h.ob k _ hob).2 hx) hy
      · cases hn
    · cases hn
  case vw k sz' lo m =>
    cases hle : (Nat.beq sz sz' && Nat.blt j m) <;> simp only [hle, cond_true, cond_false] at hn <;> cases hn
    simp only [Bool.and_eq_true] at hle
    have he := beq_t hle.1
    subst he
    have hj : j < m := Nat.le_of_ble_eq_true hle.2
    obtain ⟨hu, ad, c, rfl, _, _, _, h4⟩ := hv
    obtain ⟨b, h5, rfl⟩ := h4 (by omega)
    exact ⟨_, m, c, rfl, hj, hu, b, h5, by rw [add_lit, Nat.add_mul]; rfl⟩
theorem ok_indexAddr {y z : Operand} {t e : TypeId} {sz bs : Nat} {c d : Cell} {k : IntKind} {i : Int} (ho : o.op = .indexAddr t y z) (ht : EL C.P t = some e) (hi : EInfo C.P e = some (sz, bs)) (hy : s.ev y = .c c) (hz : s.ev z = .c (.im (.flat (.int k i)))) (h0 : 0 ≤ i) (hn : s.elemAt e sz i.toNat c = some d) (hd : ∀ i, o.dst = some i → i < s.nt) :
    OpOk C o s (s.put o.dst (.c d)) := by
  refine opOk_same hd fun ac w L hs => ?_
  have hv := hs.ev y
  rw [hy] at hv
  obtain ⟨ad, n, cap, he, hj, hr⟩ := hs.elemAt hi hn hv
  obtain ⟨ie, hie, hsz, _⟩ := EInfo_spec hi
  refine ⟨_, ?_, hr⟩
  unfold execOp
  simp [ho, he, ev_flat hs hz, Instr.indexAt, asIntOf, run_underlying (EL_spec ht), Sem.run_bind, sizeOf, typeInfo, hie, hsz, h0, show i < (n : Int) by omega]
theorem ok_indexS {y z : Operand} {t : TypeId} {b : ByteArray} {k : IntKind} {i : Int} (ho : o.op = .index t y z) (ht : C.P.underlying t = some .string) (hy : s.ev y = .c (.im (.flat (.string b)))) (hz : s.ev z = .c (.im (.flat (.int k i)))) (h0 : 0 ≤ i) (h1 : i < b.size) (hd : ∀ i, o.dst = some i → i < s.nt) :
    OpOk C o s (s.put o.dst (.c (.im (.flat (.int .u8 ((b.toList.getD i.toNat 0).toNat : Int)))))) := by
  refine opOk_flat rfl hd fun ac w L hs => ?_
  unfold execOp
  have hlt : i.toNat < b.size := by omega
  have hb : b.toList.getD i.toNat 0 = b[i.toNat] := by
    have hl : b.toList = b.data.toList := by rw [ByteArray.toList_eq]
    rw [hl, List.getD_eq_getElem?_getD, List.getElem?_eq_getElem (by simpa using hlt)]
    rfl
  rw [hb]
  simp [ho, ev_flat hs hy, ev_flat hs hz, run_index_string w t b k i ht, h0, h1, Sem.run_bind]
end ops
end Go.Exe
