/-
  Xf: one operation at a time, the fourth part: cuts of slices and strings, append.
-/
import Derived.Test.YtegcmciglakicaaXe
import Derived.Laws.AppendOwnNone
namespace Go.Exe
open Go.RowKit
set_option linter.unusedVariables false
set_option linter.unusedSimpArgs false

/-! ### cuts -/
/-- A bound of a cut: absent, or a whole number. -/
def bnd (s : St) : Option Operand → Option (Option Int)
  | none => some none
  | some y => match s.ev y with
    | .c (.im (.flat (.int _ n))) => some (some n)
    | _ => none
def cutOk (lo hi : Option Int) (n : Nat) : Prop := 0 ≤ lo.getD 0 ∧ lo.getD 0 ≤ hi.getD n ∧ hi.getD n ≤ n
theorem bnd_spec {C : Ctx} {s : St} {a : Act} {w : World} {L : Where} (h : Sim C s a w L) {y : Option Operand} {b : Option Int} (hb : bnd s y = some b) : (y = none ∧ b = none) ∨ ∃ x k n, y = some x ∧ a.eval x = .int k n ∧ b = some n := by
  unfold bnd at hb
  split at hb
  · cases hb; exact .inl ⟨rfl, rfl⟩
  · split at hb
    · rename_i x k n hx
      cases hb
      exact .inr ⟨_, _, _, rfl, ev_flat h hx, rfl⟩
    · cases hb
theorem run_bound {P : Program} {w : World} {k : IntKind} {i : Int} {y : Nat} {code : BoundsCode} (h0 : 0 ≤ i) (h1 : i ≤ y) : (Instr.sliceBound (.int k i) y code).run P w = .ok i.toNat w := by
  simp [Instr.sliceBound, asIntOf, Sem.run_bind, h0, h1]
theorem run_bounds {C : Ctx} {s : St} {a : Act} {w : World} {L : Where} (h : Sim C s a w L) {lo hi : Option Operand} {l u : Option Int} (hl : bnd s lo = some l) (hu : bnd s hi = some u) {sl : Bool} {n cap : Nat} (hn : n ≤ cap) (hc : cutOk l u n) :
    (Instr.sliceBounds sl n cap (lo.map a.eval) (hi.map a.eval) none).run C.P w = .ok ((l.getD 0).toNat, (u.getD n).toNat, cap) w := by
  obtain ⟨c1, c2, c3⟩ := hc
  rcases bnd_spec h hl with ⟨rfl, rfl⟩ | ⟨x, k, i, rfl, hx, rfl⟩ <;> rcases bnd_spec h hu with ⟨rfl, rfl⟩ | ⟨y, k', j, rfl, hy, rfl⟩ <;> simp only [Option.getD_some, Option.getD_none] at c1 c2 c3 ⊢
  · simp [Instr.sliceBounds]
  · cases sl <;> simp [Instr.sliceBounds, Sem.run_bind, hy, run_bound (P := C.P) (w := w) (k := k') (i := j) c2 (show j ≤ (cap : Int) by omega)]
  · simp [Instr.sliceBounds, Sem.run_bind, hx, run_bound (P := C.P) (w := w) (k := k) (i := i) c1 c2]
  · have hj : (Instr.sliceBound (.int k i) j.toNat .sliceB).run C.P w = .ok i.toNat w := run_bound c1 (by omega)
    cases sl <;> simp [Instr.sliceBounds, Sem.run_bind, hx, hy, run_bound (P := C.P) (w := w) (k := k') (i := j) (show 0 ≤ j by omega) (show j ≤ (cap : Int) by omega), hj]
section ops
variable {C : Ctx} {o : Oper} {s s1 : St} {x : TV}
theorem ok_cutS {t : TypeId} {y : Operand} {lo hi : Option Operand} {l u : Option Int} {b : ByteArray} (ho : o.op = .slice t y lo hi none) (ht : C.P.underlying t = some .string) (hy : s.ev y = .c (.im (.flat (.string b)))) (hl : bnd s lo = some l) (hu : bnd s hi = some u) (hc : cutOk l u b.size) (hd : ∀ i, o.dst = some i → i < s.nt) :
    OpOk C o s (s.put o.dst (.c (.im (.flat (.string (b.extract (l.getD 0).toNat (u.getD b.size).toNat)))))) := by
  refine opOk_flat rfl hd fun ac w L hs => ?_
  unfold execOp
  simp [ho, ev_flat hs hy, Instr.sliceAt, Instr.slice, Sem.run_bind, run_underlying ht, run_bounds hs hl hu (Nat.le_refl _) hc]
/-- A slice's part. -/
def St.cut (s : St) (e sz lo hi : Nat) : Cell → Option Cell
  | .im x => (x.els e).map fun xs => .im (.sl e ((xs.take hi).drop lo))
  | .ref k => match s.ob k with
    | some (.row e' xs) => bif Nat.beq e e' then some (.vw k sz lo (hi - lo)) else none
    | some (.fro x) => (x.els e).map fun xs => .im (.sl e ((xs.take hi).drop lo))
    | _ => none
  | .vw k sz' lo' n => bif Nat.beq sz sz' then some (.vw k sz (lo' + lo) (hi - lo)) else none
  | _ => none
theorem cut_im {P : Program} {ok : Nat → Prop} {w : World} {v : Value} {e sz bs lo hi n : Nat} {xs : List (List AV)} (hi' : EInfo P e = some (sz, bs)) (h : RepA P ok w v (.sl e xs)) (hn : xs.length = n) (h1 : lo ≤ hi) (h2 : hi ≤ n) :
    ∃ a c, v = .slice a n c ∧ n ≤ c ∧ RepA P ok w (.slice (if c = lo then a else a.map (·.add (lo * sz))) (hi - lo) (c - lo)) (.sl e ((xs.take hi).drop lo)) := by
  obtain ⟨a, m, c, rfl, hl, hc, hm, h⟩ := h.openSl
  obtain rfl : n = m := by omega
  refine ⟨a, c, rfl, hc, ?_⟩
  have hlen : ((xs.take hi).drop lo).length = hi - lo := by simp; omega
  rcases h with ⟨rfl, h0, rfl⟩ | ⟨ad, sz', bs', rfl, uss, hie, hs, hb, hul, hcell, hok, hal⟩
  · have : xs = [] := List.eq_nil_of_length_eq_zero (by omega)
    subst this
    obtain rfl : lo = 0 := by omega
    obtain rfl : hi = 0 := by omega
    simp
    exact .nil
  · rw [hi'] at hie
    cases hie
    have hul' : ∀ u ∈ (uss.take hi).drop lo, u.length = sz := fun u hu => hul u (List.mem_of_mem_take (List.mem_of_mem_drop hu))
    by_cases hcl : c = lo
    · have : hi - lo = 0 := by omega
      rw [if_pos hcl]
      have := RepA.mkSl (P := P) (ok := ok) (w := w) (ad := ad) (c := c - lo) (e := e) (xs := (xs.take hi).drop lo) (uss := (uss.take hi).drop lo) hi' hs (by omega) (by omega) (by rw [hlen]; exact Nat.le_trans (Nat.mul_le_mul_right _ (by omega)) hb) hul' (fun q u hq => by
        have h0 : (uss.take hi).drop lo = [] := List.eq_nil_of_length_eq_zero (by rw [List.length_drop, List.length_take, hal.1]; omega)
        rw [h0] at hq
        simp at hq) (fun h0 => by omega) ((hal.take hi).drop lo)
      rwa [hlen] at this
    · rw [if_neg hcl]
      have := RepA.mkSl (P := P) (ok := ok) (w := w) (ad := ad.add (lo * sz)) (c := c - lo) (e := e) (xs := (xs.take hi).drop lo) (uss := (uss.take hi).drop lo) hi' hs (by omega) (by omega) (by rw [hlen]; exact Nat.le_trans (Nat.mul_le_mul_right _ (by omega)) hb) hul' (fun q u hq => by
        obtain ⟨y, hy1, hy2⟩ := flatten_at hs hul' hq
        rw [List.getElem?_drop, List.getElem?_take] at hy1
        split at hy1
        · rw [add_add]
          refine hcell _ _ ?_
          have := flatten_get uss hul (lo + q / sz) (q % sz) (Nat.mod_lt _ hs)
          rw [hy1] at this
          rw [show lo * sz + q = (lo + q / sz) * sz + q % sz by rw [Nat.add_mul, Nat.add_assoc, Nat.mul_comm (q / sz), Nat.div_add_mod]]
          rw [this]; exact hy2
        · cases hy1) (fun h0 => by rw [add_block]; exact hok (by omega)) ((hal.take hi).drop lo)
      rw [hlen] at this
      exact this
theorem ok_cut {t e : TypeId} {sz bs n : Nat} {y : Operand} {lo hi : Option Operand} {l u : Option Int} {c d : Cell} (ho : o.op = .slice t y lo hi none) (ht : EL C.P t = some e) (hi' : EInfo C.P e = some (sz, bs)) (hs0 : 0 < sz) (hy : s.ev y = .c c) (hn : s.len e c = some n) (hl : bnd s lo = some l) (hu : bnd s hi = some u) (hc : cutOk l u n)
    (hcut : s.cut e sz (l.getD 0).toNat (u.getD n).toNat c = some d) (hd : ∀ i, o.dst = some i → i < s.nt) : OpOk C o s (s.put o.dst (.c d)) := by
  refine opOk_same hd fun ac w L hs => ?_
  have hv := hs.ev y
  rw [hy] at hv
  obtain ⟨ie, hie, hsz, _⟩ := EInfo_spec hi'
  have hc' := hc
  obtain ⟨c1, c2, c3⟩ := hc
  have key : ∀ (a : Option Addr) (cap : Nat), ac.eval y = .slice a n cap → n ≤ cap → (execOp ac.eval o).run C.P w = .ok (.value (.slice (if cap = (l.getD 0).toNat then a else a.map (·.add ((l.getD 0).toNat * sz))) ((u.getD n).toNat - (l.getD 0).toNat) (cap - (l.getD 0).toNat))) w := by
    intro a cap he hcap
    unfold execOp
    simp [ho, he, Instr.sliceAt, Instr.slice, Sem.run_bind, run_underlying (EL_spec ht), run_bounds hs hl hu hcap hc', sizeOf, typeInfo, hie, hsz]
  cases c <;> simp only [St.cut] at hcut <;> try (cases hcut; done)
  case im z =>
    obtain ⟨xs, hx, rfl⟩ := Option.map_eq_some_iff.1 hcut
    simp only [St.len, hx, Option.map_some, Option.some.injEq] at hn
    obtain ⟨a, cap, h1, h2, h3⟩ := cut_im hi' (AV.els_sound hv hx) hn (lo := (l.getD 0).toNat) (hi := (u.getD n).toNat) (by omega) (by omega)
    exact ⟨_, key a cap h1 h2, h3⟩
  case ref k =>
    obtain ⟨hus, hv1, _⟩ := hv
    split at hcut
    · rename_i e' xs hob
      cases hle : Nat.beq e e' <;> simp only [hle, cond_true, cond_false] at hcut <;> cases hcut
      have he := beq_t hle
      subst he
      simp only [St.len, hob, Option.some.injEq] at hn
      obtain ⟨_, uss, sz', bs', hi2, hs2, _, ho2, hb2, _⟩ := hs.ob k _ hob
      obtain ⟨a, cap, h1, h2, h3⟩ := ownsRow_slice ho2
      rw [hn] at h1 h2
      refine ⟨_, key a cap (hv1.trans h1) h2, hus, _, _, rfl, by omega, by omega, fun hnn => ?_, fun h0 => ?_⟩
      · rcases ho2.2 with ⟨e1, e2⟩ | ⟨g, cap', cur, e1, _⟩
        · rw [e1] at h1; cases h1; simp
        · rw [e1] at h1; cases h1
          split at hnn <;> simp at hnn
      rw [if_neg (by omega)]
      rcases ho2.2 with ⟨e1, e2⟩ | ⟨g, cap', cur, e1, _⟩
      · omega
      · rw [e1] at h1
        cases h1
        refine ⟨g, by rw [← hb2, e1]; rfl, ?_⟩
        simp [add_lit]
    · rename_i z hob
      obtain ⟨xs, hx, rfl⟩ := Option.map_eq_some_iff.1 hcut
      simp only [St.len, hob, hx, Option.map_some, Option.some.injEq] at hn
      have hz := AV.els_sound (hs.ob k _ hob).2 hx
      rw [← hv1] at hz
      obtain ⟨a, cap, h1, h2, h3⟩ := cut_im hi' hz hn (lo := (l.getD 0).toNat) (hi := (u.getD n).toNat) (by omega) (by omega)
      exact ⟨_, key a cap h1 h2, h3⟩
    · cases hcut
  case vw k sz' lo' m =>
    cases hle : Nat.beq sz sz' <;> simp only [hle, cond_true, cond_false] at hcut <;> cases hcut
    have he := beq_t hle
    subst he
    simp only [St.len, Option.some.injEq] at hn
    subst hn
    obtain ⟨hus, a, cap, h1, h2, h3, hn0, h4⟩ := hv
    refine ⟨_, key a cap h1 h2, hus, _, _, rfl, by omega, by omega, fun hnn => ?_, fun h0 => ?_⟩
    · cases a with
      | none => rw [hn0 rfl]; simp
      | some g => split at hnn <;> simp at hnn
    obtain ⟨b, h5, rfl⟩ := h4 (by omega)
    rw [if_neg (by omega)]
    exact ⟨b, h5, by simp [add_lit, Nat.add_mul]⟩
end ops
end Go.Exe
