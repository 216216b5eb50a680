import Derived.Test.YthlimkmjobpjoaaGreatM2
import Derived.ProofKit
import Derived.Carry
import Derived.SizedLaws
import Derived.ChangeSame
import Derived.OpenShut
set_option linter.unusedVariables false
set_option linter.unusedSimpArgs false
/-
  Ya: a call of yield: the caller's memory is an object that is told by a predicate.
-/
namespace Go.Exe
open Go.RowKit

def fzC : Cell → Bool
  | .im _ => true
  | _ => false
def fzT : TV → Bool
  | .c x => fzC x
  | .g xs => xs.all fzC
  | .t _ => false
theorem RepC.fz {P : Program} {ok : Nat → Prop} {w : World} {U U' : Nat → Prop} {L L' : Where} {v : Value} {c : Cell} (h : RepC P ok w U L v c) (hc : fzC c = true) : RepC P ok w U' L' v c := by
  cases c <;> first | exact h | (simp [fzC] at hc)
theorem RepT.fz {P : Program} {ok : Nat → Prop} {w : World} {U U' : Nat → Prop} {L L' : Where} {v : Value} {x : TV} (h : RepT P ok w U L v x) (hc : fzT x = true) : RepT P ok w U' L' v x := by
  cases x with
  | c x => exact RepC.fz (c := x) h hc
  | g xs =>
    obtain ⟨vs, h1, h2⟩ := h
    exact ⟨vs, h1, h2.1, fun i a b ha hb => (h2.2 i a b ha hb).fz (List.all_eq_true.1 hc b (List.mem_of_getElem? hb))⟩
  | t ys => simp [fzT] at hc
/-- What a call of the yield l with x does to the caller's memory: J1 before, J2 behind; it goes on. -/
def YC (P : Program) (l : Nat) (J1 : (Nat → Prop) → List Nat → World → Prop) (x : TV) (J2 : (Nat → Prop) → List Nat → World → Prop) : Prop :=
  RStable J2 ∧ ∀ (ok : Nat → Prop) (B : List Nat) (w : World) (v : Value), J1 ok B w → RepT P ok w U0 L0 v x → (∀ b ∈ B, b < w.heap.size) → (∀ b ∈ B, ¬ ok b) →
    ∀ n, YieldAt Fence.wide n P l #[v] w fun e w' => e = .returned (.bool true) ∧ ∃ B', J2 (fun b => (ok b ∧ b < w.heap.size) ∨ (b ∉ B' ∧ (w.heap.size ≤ b ∨ b ∈ B))) B' w' ∧
      w'.os = w.os ∧ w'.tape = w.tape ∧ (w'.output = w.output ∧ w.drawn ≤ w'.drawn) ∧ w.heap.size ≤ w'.heap.size ∧ (∀ b, b < w.heap.size → b ∉ B → w'.heap[b]? = w.heap[b]?) ∧ (∀ b ∈ B', b ∈ B ∨ w.heap.size ≤ b) ∧ ∀ b ∈ B', b < w'.heap.size
theorem run_callY {P : Program} {o : Oper} {ρ : Operand → Value} {y : Operand} {ys : Array Operand} {ts : Array TypeId} {l : Nat} {w : World} (ho : o.op = .call { callee := .value y, args := ys, argTypes := ts }) (hy : ρ y = .func (.yield l) #[] #[]) :
    (execOp ρ o).run P w = (Instr.yield l (ys.map ρ)).run P w := by
  unfold execOp
  simp [ho, resolve, hy, Deferred.ofValue, invoke, Sem.run_bind]
section
variable {C : Ctx} {s : St} {o : Oper} {k : Nat} {K : List Key → List Upd → Prop}
theorem AX.yield {y z : Operand} {ts : Array TypeId} {l k0 : Nat} {x : TV} {J1 J2 : (Nat → Prop) → List Nat → World → Prop} (ho : o.op = .call { callee := .value y, args := #[z], argTypes := ts }) (hy : s.ev y = ft (.func (.yield l) #[] #[])) (hz : s.ev z = x) (hx : fzT x = true) (hb : s.ob k0 = some (.raw J1))
    (hc : YC C.P l J1 x J2) (hd : dstOk o.dst s.nt = true) (h : K (opK y ++ opK z ++ [.h k0]) (.set k0 (.raw J2) :: dU o.dst (ft (.bool true)))) : AX C k o s K := by
  refine ⟨_, _, fun s1 hag hnt hk => ?_, fun u hu j hj => ?_, h⟩
  · rw [St.ups, ups_dU]
    show OpOk C o s1 ((s1.putO k0 (.raw J2)).put o.dst _)
    intro a w ⟨L, hs⟩ next Q hnext
    have e1 : s1.ev y = s.ev y := agree_ev hag (by intro x hx; simp [hx])
    have e2 : s1.ev z = s.ev z := agree_ev hag (by intro x hx; simp [hx])
    have e3 : s1.ob k0 = some (.raw J1) := by rw [agree_ob hag (by simp)]; exact hb
    have hv1 : a.eval y = .func (.yield l) #[] #[] := ev_flat hs (by rw [e1]; exact hy)
    have hv2 := hs.ev z
    rw [e2, hz] at hv2
    have hv2 : RepT C.P (okOf C s1 L) w U0 L0 (a.eval z) x := hv2.fz hx
    obtain ⟨hku, hbl, hJ, hst1⟩ := hs.ob k0 _ e3
    have hBown : ∀ b ∈ L.sub k0, b < w.heap.size ∧ (C.w0.heap.size ≤ b ∨ C.may b) := fun b hb => hs.own k0 _ b e3 rfl (.inr hb)
    have hBok : ∀ b ∈ L.sub k0, ¬ okOf C s1 L b := fun b hb h => h.2 k0 _ e3 rfl (.inr hb)
    obtain ⟨hst2, hcall⟩ := hc
    have hrun := run_callY (P := C.P) (w := w) ho hv1
    intro F n hF ds nextd hnd
    obtain ⟨fn, tmps, assign, body, hy1, hround⟩ := hcall _ _ w _ hJ hv2 (fun b hb => (hBown b hb).1) hBok (n - 1)
    have hrun : (execOp ({ a with defers := ds } : Act).eval o).run C.P w = .ok (.round l fn tmps assign body) w := by
      show (execOp a.eval o).run C.P w = _
      rw [hrun]; simpa using hy1
    refine ⟨fun f _ => hF.fn f, ?_⟩
    rw [sem_run hrun (fun d e => by cases e)]
    refine ⟨fun h => absurd h hF.depth, ?_⟩
    have hround2 : ∀ R, RoundIn Fence.wide (n - 1) C.P l fn tmps assign body w R → RoundIn F (n - 1) C.P l fn tmps assign body w R := by
      rcases hF with rfl | ⟨l', rfl⟩
      · exact fun _ h => h
      · exact fun _ h => h
    refine (hround2 _ hround).mono fun e w' ⟨he, B', hJ2, f1, f2, f3, f4, f5, f6, f7⟩ => ?_
    subst he
    let L' : Where := ⟨L.blk, L.hv, fun i => if i = k0 then B' else L.sub i⟩
    have hob : ∀ i, (s1.putO k0 (.raw J2)).ob i = if k0 = i then some (.raw J2) else s1.ob i := fun i => by
      show lk (ins k0 _ s1.h) i = _
      rw [lk_ins]; rfl
    have hhk : ∀ b, L'.has k0 b ↔ b ∈ B' := fun b => by simp [Where.has, L', hbl]
    have hho : ∀ i b, i ≠ k0 → (L'.has i b ↔ L.has i b) := fun i b hi => by simp [Where.has, L', hi]
    have hothers : ∀ i o', (s1.putO k0 (.raw J2)).ob i = some o' → i ≠ k0 → s1.ob i = some o' := fun i o' hi hne => by
      rw [hob, if_neg (fun e => hne e.symm)] at hi; exact hi
    have hok : ∀ b, okOf C s1 L b → b < w.heap.size → okOf C (s1.putO k0 (.raw J2)) L' b := fun b hbk hlt => ⟨hbk.1, fun i o' hi hown hh => by
      by_cases hik : i = k0
      · subst hik
        rw [hhk] at hh
        rcases f6 b hh with h1 | h1
        · exact hBok b h1 hbk
        · omega
      · rw [hho i b hik] at hh
        exact hbk.2 i o' (hothers i o' hi hik) hown hh⟩
    have hsim : Sim C (s1.putO k0 (.raw J2)) a w' L' := by
      refine hs.next2 rfl rfl (fun _ h => h) (fun i _ => ⟨rfl, rfl⟩) (fun b => b ∈ L.sub k0) f1 f2 f3 f4 (fun b hlt hx => f5 b hlt hx) (fun b hb => ⟨hBok b hb, (hBown b hb).2⟩) hok (fun i o' hi => ?_) (fun i i' o1 o2 b hi hi' hw1 hw2 hb1 hb2 => ?_) (fun i o' b hi hw1 hb1 => ?_)
      · by_cases hik : i = k0
        · subst hik
          rw [hob, if_pos rfl] at hi
          cases hi
          refine .inr ⟨hku, hbl, ?_, hst2⟩
          show J2 _ (if i = i then B' else L.sub i) w'
          rw [if_pos rfl]
          refine hst2 _ _ B' w' w' hJ2 (fun b hb hlt => ⟨?_, rfl⟩) fun _ _ => rfl
          rcases hb with ⟨hb, hbl⟩ | ⟨hnb, hb⟩
          · exact hok b hb hbl
          · refine ⟨fun hlt2 => ?_, fun j o' hj hown hh => ?_⟩
            · rcases hb with hb | hb
              · exact absurd hlt2 (by have := hs.size; omega)
              · rcases (hBown b hb).2 with h3 | h3
                · exact absurd hlt2 (by omega)
                · exact .inr h3
            · by_cases hjk : j = i
              · subst hjk; rw [hhk] at hh; exact hnb hh
              · rw [hho j b hjk] at hh
                rcases hb with hb | hb
                · have := (hs.own j o' b (hothers j o' hj hjk) hown hh).1
                  omega
                · exact hjk (hs.inj j i o' _ b (hothers j o' hj hjk) e3 hown rfl hh (.inr hb))
        · refine .inl ⟨hothers i o' hi hik, by simp [L', hik], fun hown b hb hbx => hik (hs.inj i k0 o' _ b (hothers i o' hi hik) e3 hown rfl hb (.inr hbx))⟩
      · have key : ∀ i o' b, (s1.putO k0 (.raw J2)).ob i = some o' → o'.owns = true → i ≠ k0 → L'.has i b → L'.has k0 b → False := fun i o' b hi hown hne h1 h2 => by
          rw [hho i b hne] at h1
          rw [hhk] at h2
          have hi := hothers i o' hi hne
          rcases f6 b h2 with h3 | h3
          · exact hne (hs.inj i k0 o' _ b hi e3 hown rfl h1 (.inr h3))
          · have := (hs.own i o' b hi hown h1).1; omega
        by_cases h1 : i = k0 <;> by_cases h2 : i' = k0
        · rw [h1, h2]
        · subst h1; exact (key i' o2 b hi' hw2 h2 hb2 hb1).elim
        · subst h2; exact (key i o1 b hi hw1 h1 hb1 hb2).elim
        · rw [hho i b h1] at hb1
          rw [hho i' b h2] at hb2
          exact hs.inj i i' o1 o2 b (hothers i o1 hi h1) (hothers i' o2 hi' h2) hw1 hw2 hb1 hb2
      · by_cases hik : i = k0
        · subst hik
          rw [hhk] at hb1
          refine ⟨f7 b hb1, ?_⟩
          rcases f6 b hb1 with h3 | h3
          · exact (hBown b h3).2
          · exact .inl (by have := hs.size; omega)
        · rw [hho i b hik] at hb1
          have := hs.own i o' b (hothers i o' hi hik) hw1 hb1
          exact ⟨by omega, this.2⟩
    show nextd (({ a with defers := ds } : Act).put o.dst (.bool true)) w'
    rw [put_defers]
    refine hnd _ _ (hnext _ _ ⟨L', hsim.put o.dst (by rw [show (s1.putO k0 (.raw J2)).nt = s1.nt from rfl, hnt]; exact dstOk_spec hd) (RepA.flat rfl)⟩)
  · rcases List.mem_cons.1 hu with rfl | hu
    · exact absurd hj id
    · exact (given_dU u hu j hj).elim
end
end Go.Exe
/-
  Yb: a range over a function: what one round does to the memory of the one that ranges.
-/
namespace Go.Exe
open Go.RowKit

/-- A region in whatever frame. -/
theorem reg_in {F : Fence} {n : Nat} (hF : WideF F) (ds : List Deferred) {C : Ctx} {s : St} {ops : Array Oper} {K : St → Prop} (hex : s.ex = []) (h : Run C ops s.nx 0 ops.toList s K) {id : Nat} {Q : Exit → Act → World → Prop} {a : Act} {w : World} (hs : S C s a w)
    (hq : ∀ s' a' w', K s' → S C (s'.bump (s.nx + ops.toList.length)) a' w' → Q .normal { a' with defers := ds } w') : (Code.region id ops false).wpIn F n C.P Q { a with defers := ds } w := by
  have h := Run.reg (pre := []) h
  obtain ⟨tr, k1, k2, k3⟩ := Reg.out h rfl
  simp only [List.nil_append, Nat.zero_add] at k1 k3
  have htr : TrOk C ops s.nx s tr := ⟨by rw [k2]; simp, fun i G U o hi ho => k3 i G U o hi (by simpa using ho)⟩
  refine wpIn_region_list (list_sound hF ds rfl hex ops.toList 0 [] tr rfl rfl htr a w hs fun a' w' hs' => ?_)
  rw [List.nil_append] at hs'
  refine hq _ _ _ k1 (S_bump hs' _ (upd_given tr s.nx _ s rfl hex k2 fun j G U hj => by
    have hj2 : j < ops.toList.length := by rw [← k2]; exact (List.getElem?_eq_some_iff.1 hj).1
    exact (k3 j G U _ hj (List.getElem?_eq_getElem hj2)).2))
theorem lk_memE {α : Type} : ∀ {l : List (Nat × α)} {k : Nat} {x : α}, lk l k = some x → (k, x) ∈ l
  | p :: r, k, x, h => by
    simp only [lk] at h
    cases e : Nat.beq p.1 k with
    | true => rw [e] at h; obtain rfl := beq_t e; cases h; exact List.mem_cons_self
    | false => rw [e] at h; exact List.mem_cons_of_mem _ (lk_memE h)
/-- The objects of a state, in a list of blocks. -/
structure Core (P : Program) (s : St) (ok : Nat → Prop) (B : List Nat) (w : World) (L : Where) : Prop where
  ob : ∀ k o, s.ob k = some o → s.used k ∧ RepO P ok w s.used L k o
  inj : ∀ k k' o o' b, s.ob k = some o → s.ob k' = some o' → o.owns = true → o'.owns = true → L.has k b → L.has k' b → k = k'
  own : ∀ k o b, s.ob k = some o → o.owns = true → L.has k b → b ∈ B ∧ b < w.heap.size
theorem Core.move {P : Program} {s : St} {ok ok' : Nat → Prop} {B B' : List Nat} {w w' : World} {L : Where} (h : Core P s ok B w L) (m : ∀ b, ok b → b < w.heap.size → ok' b ∧ w'.heap[b]? = w.heap[b]?)
    (hb : ∀ k o b, s.ob k = some o → o.owns = true → L.has k b → w'.heap[b]? = w.heap[b]? ∧ b ∈ B') : Core P s ok' B' w' L := by
  refine ⟨fun k o hk => ⟨(h.ob k o hk).1, (h.ob k o hk).2.move m (fun _ h => h) (h.ob k o hk).1 (Where.upto_refl _ _) rfl fun ho b hh => (hb k o b hk ho hh).1⟩, h.inj, fun k o b hk ho hh => ⟨(hb k o b hk ho hh).2, ?_⟩⟩
  have h1 := (h.own k o b hk ho hh).2
  have h2 := (hb k o b hk ho hh).1
  rw [Array.getElem?_eq_getElem h1] at h2
  exact (Array.getElem?_eq_some_iff.1 h2).1
theorem Core.sim {P : Program} {s : St} {ok : Nat → Prop} {B : List Nat} {w : World} {L : Where} (h : Core P s ok B w L) (hB : ∀ b ∈ B, ¬ ok b) {tm : Array Value} (hnt : tm.size = s.nt) (htm : ∀ i, RepT P ok w s.used L (tm.getD i undef) (s.tv i)) (may : Nat → Prop)
    (hmay : ∀ k o b, s.ob k = some o → o.owns = true → L.has k b → may b) {np : Nat} (hu : ∀ k, k < np → s.used k) : Sim ⟨P, w, ok, may, np, fun k => (L.blk k, L.hv k)⟩ s { tmps := tm, defers := [] } w L := by
  have m : Moves ok (okOf ⟨P, w, ok, may, np, fun k => (L.blk k, L.hv k)⟩ s L) w w := fun b hb hlt => ⟨⟨fun _ => .inl hb, fun k o hk ho hh => hB b (h.own k o b hk ho hh).1 hb⟩, rfl⟩
  exact ⟨rfl, rfl, ⟨rfl, Nat.le_refl _⟩, Nat.le_refl _, fun _ _ _ => rfl, hnt, fun i => (htm i).move m (fun _ h => h) (Where.upto_refl _ _), fun k o hk => ⟨(h.ob k o hk).1, (h.ob k o hk).2.move m (fun _ h => h) (h.ob k o hk).1 (Where.upto_refl _ _) rfl fun _ _ _ => rfl⟩, h.inj, fun k o b hk ho hh => ⟨(h.own k o b hk ho hh).2, .inr (hmay k o b hk ho hh)⟩, rfl, fun k hk => ⟨hu k hk, rfl, rfl⟩⟩
def blksOf (s : St) (L : Where) : List Nat := s.h.flatMap fun p => (L.blk p.1).toList ++ L.sub p.1
theorem blksOf_mem {s : St} {L : Where} {k : Nat} {o : Obj} {b : Nat} (hk : s.ob k = some o) (hh : L.has k b) : b ∈ blksOf s L := by
  refine List.mem_flatMap.2 ⟨(k, o), lk_memE hk, ?_⟩
  rcases hh with h | h
  · exact List.mem_append_left _ (by simp [h])
  · exact List.mem_append_right _ h
theorem Sim.core {C : Ctx} {s : St} {a : Act} {w : World} {L : Where} (h : Sim C s a w L) : Core C.P s (okOf C s L) (blksOf s L) w L :=
  ⟨h.ob, h.inj, fun k o b hk ho hh => ⟨blksOf_mem hk hh, (h.own k o b hk ho hh).1⟩⟩
/-- All that a state names is its own (each entry of its heap counts). -/
def allOwn (s : St) : Prop := ∀ p ∈ s.h, s.ob p.1 = some p.2 ∧ p.2.owns = true
theorem blksOf_own {s : St} {L : Where} (h : allOwn s) {b : Nat} (hb : b ∈ blksOf s L) : ∃ k o, s.ob k = some o ∧ o.owns = true ∧ L.has k b := by
  obtain ⟨p, hp, hb⟩ := List.mem_flatMap.1 hb
  obtain ⟨h1, h2⟩ := h p hp
  refine ⟨p.1, p.2, h1, h2, ?_⟩
  rcases List.mem_append.1 hb with h3 | h3
  · exact .inl (by simpa using h3)
  · exact .inr h3
/-- The memory of one that ranges: the objects of T pre; the variable 0 at Bs; the loop's record; the block of its deferred calls. -/
def SeqJ {X : Type} (P : Program) (T : List X → St) (Bs l D : Nat) (rec : Loop) (pre : List X) : (Nat → Prop) → List Nat → World → Prop := fun ok B w =>
  ∃ L, Core P (T pre) ok B w L ∧ L.blk 0 = some Bs ∧ l ∈ B ∧ D ∈ B ∧ l ≠ D ∧ (∀ k o, (T pre).ob k = some o → o.owns = true → ¬ L.has k l ∧ ¬ L.has k D) ∧ w.heap[l]? = some (.loop rec) ∧ w.heap[D]? = some (.deferred (some []))
theorem seqJ_stable {X : Type} {P : Program} {T : List X → St} {Bs l D : Nat} {rec : Loop} (pre : List X) : RStable (SeqJ P T Bs l D rec pre) := by
  rintro ok ok' B w w' ⟨L, h1, h2, h3, h4, h5, h6, h7, h8⟩ m hB
  exact ⟨L, h1.move m (fun k o b hk ho hh => ⟨hB b (h1.own k o b hk ho hh).1, (h1.own k o b hk ho hh).1⟩), h2, h3, h4, h5, h6, by rw [hB l h3]; exact h7, by rw [hB D h4]; exact h8⟩
theorem seqJ_yield {X : Type} {P : Program} {T : List X → St} {tv : X → TV} {TMx : List X → X → St} {Bs l D fnid p d nt b1 i2 i3 : Nat} {ops2 ops3 : Array Oper} {tm : Array Value} {rec : Loop}
    (hrec : rec = { state := .ready, pending := none, fn := fnid, tmps := tm, params := #[p], assign := .region i2 ops2 false, body := .block b1 (.region i3 ops3 false), defers := D })
    (htms : tm.size = nt) (htmd : tm.getD d undef = .pointer (some ⟨Bs, 0, none⟩)) (hpd : p ≠ d) (hpn : p < nt)
    (hT : ∀ pre, (T pre).t = [(d, .c (.ptr 0 0))] ∧ (T pre).nt = nt ∧ (T pre).ex = [] ∧ (T pre).used 0 ∧ allOwn (T pre)) (hTM : ∀ pre x, (TMx pre x).ex = [] ∧ (TMx pre x).used 0 ∧ allOwn (TMx pre x))
    (pre : List X) (x : X) (hx : fzT (tv x) = true)
    (h2 : ∀ C : Ctx, C.P = P → C.np = 1 → Run C ops2 (T pre).nx 0 ops2.toList ((T pre).put (some p) (tv x)) fun s1 => Fits C (s1.bump ((T pre).nx + ops2.toList.length)) (TMx pre x))
    (h3 : ∀ C : Ctx, C.P = P → C.np = 1 → Run C ops3 (TMx pre x).nx 0 ops3.toList (TMx pre x) fun s2 => Fits C (s2.bump ((TMx pre x).nx + ops3.toList.length)) (T (pre ++ [x]))) :
    YC P l (SeqJ P T Bs l D rec pre) (tv x) (SeqJ P T Bs l D rec (pre ++ [x])) := by
  refine ⟨seqJ_stable _, ?_⟩
  rintro ok B w v ⟨L, hc, hbs, hlB, hDB, hlD, hno, hl, hD⟩ hv hBlt hBok n
  obtain ⟨t1, t2, t3, t4, t5⟩ := hT pre
  obtain ⟨u1, u2, u3, u4, u5⟩ := hT (pre ++ [x])
  have hllt := hBlt l hlB
  have hDlt := hBlt D hDB
  have hy := run_yield (P := P) (args := #[v]) hl (by rw [hrec]; rfl)
  rw [hrec] at hy
  refine ⟨fnid, tm.setIfInBounds p v, .region i2 ops2 false, .block b1 (.region i3 ops3 false), by simpa using hy, roundIn_of_wpIn trivial ?_⟩
  -- the round's own state
  let may1 : Nat → Prop := fun b => b ∈ B ∧ b ≠ l ∧ b ≠ D
  have hob1 : ∀ k, ((T pre).put (some p) (tv x)).ob k = (T pre).ob k := fun _ => rfl
  have hc1 : Core P ((T pre).put (some p) (tv x)) ok B w L := ⟨hc.ob, hc.inj, hc.own⟩
  have hsim1 : Sim ⟨P, w, ok, may1, 1, fun k => (L.blk k, L.hv k)⟩ ((T pre).put (some p) (tv x)) { tmps := tm.setIfInBounds p v, defers := [] } w L := by
    refine hc1.sim hBok (by rw [Array.size_setIfInBounds, htms]; exact t2.symm) (fun i => ?_) may1 (fun k o b hk ho hh => ⟨(hc.own k o b hk ho hh).1, fun e => (hno k o hk ho).1 (e ▸ hh), fun e => (hno k o hk ho).2 (e ▸ hh)⟩) (fun k hk => by rw [show k = 0 by omega]; exact t4)
    show RepT P ok w _ L _ ((lk (ins p (tv x) (T pre).t) i).getD (.c .dead))
    rw [lk_ins, t1]
    by_cases hi : p = i
    · subst hi
      rw [if_pos rfl]
      have : (tm.setIfInBounds p v).getD p undef = v := by
        rw [Array.getD_eq_getD_getElem?, Array.getElem?_setIfInBounds_self_of_lt (by rw [htms]; exact hpn)]; rfl
      rw [this]
      exact hv.fz hx
    · rw [if_neg hi]
      simp only [lk]
      cases hbd : Nat.beq d i with
      | false => exact trivial
      | true =>
        obtain rfl := beq_t hbd
        have : (tm.setIfInBounds p v).getD d undef = tm.getD d undef := by
          rw [Array.getD_eq_getD_getElem?, Array.getD_eq_getD_getElem?, Array.getElem?_setIfInBounds_ne hi]
        rw [this, htmd]
        exact ⟨t4, Bs, hbs, rfl⟩
  refine reg_in (C := ⟨P, w, ok, may1, 1, fun k => (L.blk k, L.hv k)⟩) (s := (T pre).put (some p) (tv x)) (a := { tmps := tm.setIfInBounds p v, defers := [] }) (.inr ⟨l, rfl⟩) [] t3 (h2 ⟨P, w, ok, may1, 1, fun k => (L.blk k, L.hv k)⟩ rfl rfl) ⟨L, hsim1⟩ fun s1 a1 w1 hf1 hs1 => ?_
  obtain ⟨L1, hs1⟩ := hf1 a1 w1 hs1
  -- beginRound
  have kept1 : ∀ b, b < w.heap.size → ¬ may1 b → w1.heap[b]? = w.heap[b]? := hs1.kept
  have hl1 : w1.heap[l]? = some (.loop rec) := by rw [kept1 l hllt (fun h => h.2.1 rfl)]; exact hl
  have hD1 : w1.heap[D]? = some (.deferred (some [])) := by rw [kept1 D hDlt (fun h => h.2.2 rfl)]; exact hD
  have hbr := run_beginRound (P := P) hl1 (by rw [hrec])
  have own1 : ∀ k o b, (TMx pre x).ob k = some o → o.owns = true → L1.has k b → b < w1.heap.size ∧ (w.heap.size ≤ b ∨ may1 b) := hs1.own
  have nl1 : ∀ k o, (TMx pre x).ob k = some o → o.owns = true → ¬ L1.has k l ∧ ¬ L1.has k D := fun k o hk ho =>
    ⟨fun hh => (own1 k o l hk ho hh).2.elim (fun h => absurd hllt (by omega)) (fun h => h.2.1 rfl), fun hh => (own1 k o D hk ho hh).2.elim (fun h => absurd hDlt (by omega)) (fun h => h.2.2 rfl)⟩
  refine ⟨_, hbr, ?_⟩
  obtain ⟨w2, hw2⟩ : ∃ w2, w1.putObj l (.loop { rec with state := .busy }) = w2 := ⟨_, rfl⟩
  rw [hw2]
  have hl1lt : l < w1.heap.size := (Array.getElem?_eq_some_iff.1 hl1).1
  have sz2 : w2.heap.size = w1.heap.size := by rw [← hw2]; simp [World.putObj]
  have oth2 : ∀ b, b ≠ l → w2.heap[b]? = w1.heap[b]? := fun b hb => by rw [← hw2]; exact World.putObj_heap_other hb
  have hl2 : w2.heap[l]? = some (.loop { rec with state := .busy }) := by rw [← hw2]; exact World.putObj_heap_same hl1lt
  have ok1l : ¬ okOf ⟨P, w, ok, may1, 1, fun k => (L.blk k, L.hv k)⟩ (TMx pre x) L1 l := fun h => by
    rcases h.1 hllt with h | h
    · exact hBok l hlB h
    · exact h.2.1 rfl
  obtain ⟨ok2, hok2⟩ : ∃ ok2 : Nat → Prop, ok2 = okOf ⟨P, w, ok, may1, 1, fun k => (L.blk k, L.hv k)⟩ (TMx pre x) L1 := ⟨_, rfl⟩
  have core1 : Core P (TMx pre x) ok2 (blksOf (TMx pre x) L1) w1 L1 := by rw [hok2]; exact hs1.core
  have mv12 : ∀ b, ok2 b → b < w1.heap.size → ok2 b ∧ w2.heap[b]? = w1.heap[b]? := fun b hb _ => ⟨hb, oth2 b fun e => by subst e; rw [hok2] at hb; exact ok1l hb⟩
  have core2 : Core P (TMx pre x) ok2 (blksOf (TMx pre x) L1) w2 L1 := core1.move mv12 fun k o b hk ho hh => ⟨oth2 b fun e => (nl1 k o hk ho).1 (e ▸ hh), blksOf_mem hk hh⟩
  obtain ⟨v1, v2, v3⟩ := hTM pre x
  let may2 : Nat → Prop := fun b => b ∈ blksOf (TMx pre x) L1
  have may2w : ∀ b, may2 b → w.heap.size ≤ b ∨ may1 b := fun b hb => by
    obtain ⟨k, o, hk, ho, hh⟩ := blksOf_own v3 hb
    exact (own1 k o b hk ho hh).2
  have hb2 : ∀ b ∈ blksOf (TMx pre x) L1, ¬ ok2 b := fun b hb h => by
    obtain ⟨k, o, hk, ho, hh⟩ := blksOf_own v3 hb
    rw [hok2] at h
    exact h.2 k o hk ho hh
  have hsim2 : Sim ⟨P, w2, ok2, may2, 1, fun k => (L1.blk k, L1.hv k)⟩ (TMx pre x) a1 w2 L1 := by
    have := core2.sim hb2 (tm := a1.tmps) hs1.nt (fun i => by
      have := hs1.tm i
      rw [← hok2] at this
      exact this.move mv12 (fun _ h => h) (Where.upto_refl _ _)) may2 (fun k o b hk ho hh => blksOf_mem hk hh) (np := 1) (fun k hk => by rw [show k = 0 by omega]; exact v2)
    have ha : a1 = { tmps := a1.tmps, defers := [] } := by have := hs1.defers; cases a1; simp only at this; rw [this]
    rw [← ha] at this
    exact this
  refine wpIn_block (reg_in (C := ⟨P, w2, ok2, may2, 1, fun k => (L1.blk k, L1.hv k)⟩) (s := TMx pre x) (a := a1) (.inr ⟨l, rfl⟩) [] v1 (h3 ⟨P, w2, ok2, may2, 1, fun k => (L1.blk k, L1.hv k)⟩ rfl rfl) ⟨L1, hsim2⟩ fun s2 a2 w3 hf2 hs2 => ?_)
  obtain ⟨L3, hs3⟩ := hf2 a2 w3 hs2
  have kept2 : ∀ b, b < w2.heap.size → ¬ may2 b → w3.heap[b]? = w2.heap[b]? := hs3.kept
  have nml : ¬ may2 l := fun h => (may2w l h).elim (fun h => absurd hllt (by omega)) (fun h => h.2.1 rfl)
  have nmD : ¬ may2 D := fun h => (may2w D h).elim (fun h => absurd hDlt (by omega)) (fun h => h.2.2 rfl)
  have sw1 : w.heap.size ≤ w1.heap.size := hs1.size
  have sw3 : w2.heap.size ≤ w3.heap.size := hs3.size
  have hl3 : w3.heap[l]? = some (.loop { rec with state := .busy }) := by rw [kept2 l (by omega) nml]; exact hl2
  have hD3 : w3.heap[D]? = some (.deferred (some [])) := by rw [kept2 D (by omega) nmD, oth2 D (fun e => hlD e.symm)]; exact hD1
  have hend := run_endRound (P := P) none hl3
  have own3 : ∀ k o b, (T (pre ++ [x])).ob k = some o → o.owns = true → L3.has k b → b < w3.heap.size ∧ (w2.heap.size ≤ b ∨ may2 b) := hs3.own
  have nl3 : ∀ k o, (T (pre ++ [x])).ob k = some o → o.owns = true → ¬ L3.has k l ∧ ¬ L3.has k D := fun k o hk ho =>
    ⟨fun hh => (own3 k o l hk ho hh).2.elim (fun h => absurd hllt (by omega)) nml, fun hh => (own3 k o D hk ho hh).2.elim (fun h => absurd hDlt (by omega)) nmD⟩
  obtain ⟨w4, hw4⟩ : ∃ w4, w3.putObj l (.loop { { rec with state := .busy } with state := if (none : Option Code).isNone then .ready else .done, pending := none }) = w4 := ⟨_, rfl⟩
  rw [hw4] at hend
  have hl3lt : l < w3.heap.size := (Array.getElem?_eq_some_iff.1 hl3).1
  have sz4 : w4.heap.size = w3.heap.size := by rw [← hw4]; simp [World.putObj]
  have oth4 : ∀ b, b ≠ l → w4.heap[b]? = w3.heap[b]? := fun b hb => by rw [← hw4]; exact World.putObj_heap_other hb
  have hl4 : w4.heap[l]? = some (.loop rec) := by
    rw [← hw4, World.putObj_heap_same hl3lt, hrec]
    rfl
  obtain ⟨ok3, hok3⟩ : ∃ ok3 : Nat → Prop, ok3 = okOf ⟨P, w2, ok2, may2, 1, fun k => (L1.blk k, L1.hv k)⟩ (T (pre ++ [x])) L3 := ⟨_, rfl⟩
  have core3 : Core P (T (pre ++ [x])) ok3 (blksOf (T (pre ++ [x])) L3) w3 L3 := by rw [hok3]; exact hs3.core
  have ok2c : ∀ b, b < w.heap.size → ok2 b → ok b ∨ may1 b := fun b hb h => by rw [hok2] at h; exact h.1 hb
  have ok3c : ∀ b, b < w2.heap.size → ok3 b → ok2 b ∨ may2 b := fun b hb h => by rw [hok3] at h; exact h.1 hb
  have ok3l : ¬ ok3 l := fun h => by
    rcases ok3c l (by omega) h with h | h
    · rw [hok2] at h; exact ok1l h
    · exact nml h
  have ok3D : ¬ ok3 D := fun h => by
    rcases ok3c D (by omega) h with h | h
    · rcases ok2c D hDlt h with h | h
      · exact hBok D hDB h
      · exact h.2.2 rfl
    · exact nmD h
  have ok3n : ∀ b, ok3 b → b ∉ blksOf (T (pre ++ [x])) L3 := fun b h hb => by
    obtain ⟨k, o, hk, ho, hh⟩ := blksOf_own u5 hb
    rw [hok3] at h
    exact h.2 k o hk ho hh
  refine ⟨_, _, hend, ?_⟩
  refine ⟨by simp, l :: D :: blksOf (T (pre ++ [x])) L3, ?_, ?_, ?_, ?_, ?_, ?_, ?_, ?_⟩
  · refine ⟨L3, core3.move (fun b hb hlt => ⟨?_, oth4 b fun e => ok3l (e ▸ hb)⟩) (fun k o b hk ho hh => ⟨oth4 b fun e => (nl3 k o hk ho).1 (e ▸ hh), List.mem_cons_of_mem _ (List.mem_cons_of_mem _ (blksOf_mem hk hh))⟩), ?_, List.mem_cons_self, List.mem_cons_of_mem _ List.mem_cons_self, hlD, nl3, hl4, by rw [oth4 D (fun e => hlD e.symm)]; exact hD3⟩
    · have hnb : b ∉ l :: D :: blksOf (T (pre ++ [x])) L3 := by
        simp only [List.mem_cons, not_or]
        exact ⟨fun e => ok3l (e ▸ hb), fun e => ok3D (e ▸ hb), ok3n b hb⟩
      by_cases hbw : b < w.heap.size
      · rcases ok3c b (by omega) hb with h | h
        · rcases ok2c b hbw h with h | h
          · exact .inl ⟨h, hbw⟩
          · exact .inr ⟨hnb, .inr h.1⟩
        · rcases may2w b h with h | h
          · omega
          · exact .inr ⟨hnb, .inr h.1⟩
      · exact .inr ⟨hnb, .inl (by omega)⟩
    · have h1 := (hs3.pin 0 (Nat.zero_lt_one)).2.1
      have h2 := (hs1.pin 0 (Nat.zero_lt_one)).2.1
      exact h1.trans (h2.trans hbs)
  · rw [← hw4]; exact hs3.os.trans (by rw [← hw2]; exact hs1.os)
  · rw [← hw4]; exact hs3.tape.trans (by rw [← hw2]; exact hs1.tape)
  · rw [← hw4]
    refine ⟨hs3.output.1.trans (by rw [← hw2]; exact hs1.output.1), ?_⟩
    have h1 := hs3.output.2
    have h2 := hs1.output.2
    rw [← hw2] at h1
    exact Nat.le_trans h2 h1
  · omega
  · intro b hb hnb
    rw [oth4 b (fun e => hnb (e ▸ hlB)), kept2 b (by omega) (fun h => (may2w b h).elim (fun h => absurd hb (by omega)) (fun h => hnb h.1)), oth2 b (fun e => hnb (e ▸ hlB)), kept1 b hb (fun h => hnb h.1)]
  · intro b hb
    simp only [List.mem_cons] at hb
    rcases hb with rfl | rfl | hb
    · exact .inl hlB
    · exact .inl hDB
    · obtain ⟨k, o, hk, ho, hh⟩ := blksOf_own u5 hb
      rcases (own3 k o b hk ho hh).2 with h | h
      · exact .inr (by omega)
      · rcases may2w b h with h | h
        · exact .inr h
        · exact .inl h.1
  · intro b hb
    simp only [List.mem_cons] at hb
    rcases hb with rfl | rfl | hb
    · omega
    · omega
    · obtain ⟨k, o, hk, ho, hh⟩ := blksOf_own u5 hb
      have := (own3 k o b hk ho hh).1
      omega
end Go.Exe
/-
  Yc: a function that ranges over a function: its contract, out of the iterator's.
-/
namespace Go.Exe
open Go.RowKit

/-- A contract whose end is told up to a choice that the world makes. -/
def GCallE {β : Type} (P : Program) (f np : Nat) (s0 : St) (S : β → Prop) (s1 : β → St) : Prop :=
  CallOk P f ∧ ∀ (C : Ctx), C.P = P → C.np = np → ∀ (vs : List Value) (w : World) (L : Where), Sim C s0 { tmps := vs.toArray, defers := [] } w L →
    Calls P f vs.toArray w fun e w' => ∃ b v L', S b ∧ e = .returned v ∧ Sim C (s1 b) { tmps := #[v], defers := [] } w' L'
/-- What an iterator gives: the elements of some list that S tells. -/
def ItC {X : Type} (P : Program) (gf : Nat) (caps : List TV) (tv : X → TV) (S : List X → Prop) (N : Nat) : Prop :=
  ∀ (l : Nat) (J : List X → (Nat → Prop) → List Nat → World → Prop), (∀ pre, RStable (J pre)) → (∀ pre x, pre.length < N → YC P l (J pre) (tv x) (J (pre ++ [x]))) →
    GCall P gf 1 (St.g (ft (.func (.yield l) #[] #[]) :: caps) [(0, .raw (J []))] 1) (St.r (.t []) [(0, .raw fun ok B w => ∃ ys, S ys ∧ J ys ok B w)] 1)
theorem Core.toSim {C : Ctx} {s : St} {ok : Nat → Prop} {B : List Nat} {w : World} {L : Where} (h : Core C.P s ok B w L) {tm : Array Value} (hos : w.os = C.w0.os) (htape : w.tape = C.w0.tape) (hout : w.output = C.w0.output ∧ C.w0.drawn ≤ w.drawn) (hsize : C.w0.heap.size ≤ w.heap.size)
    (hkept : ∀ b, b < C.w0.heap.size → ¬ C.may b → w.heap[b]? = C.w0.heap[b]?) (hnt : tm.size = s.nt) (htm : ∀ i, RepT C.P ok w s.used L (tm.getD i undef) (s.tv i)) (hok : ∀ b, ok b → b < w.heap.size → b < C.w0.heap.size → C.ok0 b ∨ C.may b)
    (hno : ∀ k o b, s.ob k = some o → o.owns = true → L.has k b → ¬ ok b ∧ (C.w0.heap.size ≤ b ∨ C.may b)) (hpin : ∀ k, k < C.np → s.used k ∧ L.blk k = (C.pblk k).1 ∧ L.hv k = (C.pblk k).2) : Sim C s { tmps := tm, defers := [] } w L := by
  have m : Moves ok (okOf C s L) w w := fun b hb hlt => ⟨⟨hok b hb hlt, fun k o hk ho hh => (hno k o b hk ho hh).1 hb⟩, rfl⟩
  exact ⟨hos, htape, hout, hsize, hkept, hnt, fun i => (htm i).move m (fun _ h => h) (Where.upto_refl _ _), fun k o hk => ⟨(h.ob k o hk).1, (h.ob k o hk).2.move m (fun _ h => h) (h.ob k o hk).1 (Where.upto_refl _ _) rfl fun _ _ _ => rfl⟩, h.inj, fun k o b hk ho hh => ⟨(h.own k o b hk ho hh).2, (hno k o b hk ho hh).2⟩, rfl, hpin⟩
set_option maxHeartbeats 1000000 in
theorem seq_range {X : Type} {P : Program} {f : Nat} {fn : Func} {i0 i1 i2 i3 i4 b0 b1 gi p d nt : Nat} {ops0 ops1 ops2 ops3 ops4 : Array Oper} {rs : List ResultVar} {args : List TV} {TA : St} {T : List X → St} {TMx : List X → X → St} {tv : X → TV} {S : List X → Prop} {N gf : Nat} {cs : List AV} {s1 : List X → St}
    (hf : P.funcs[f]? = some fn)
    (hb : fn.body = some (.seq (.region i0 ops0 false) (.seq (.seq (.region i1 ops1 false) (.block b0 (.rangeFunc (.tmp gi) #[p] (.region i2 ops2 false) (.block b1 (.region i3 ops3 false))))) (.seq (.region i4 ops4 false) .ret))))
    (hfn : FnOk fn nt rs) (hn : args.length ≤ nt) (hpd : p ≠ d) (hpn : p < nt)
    (h0 : ∀ C : Ctx, C.P = P → C.np = 0 → Run C ops0 0 0 ops0.toList ⟨idx 0 args, [], 0, [], nt⟩ fun s => ∃ sB : St, sB.ex = [] ∧ Fits C (s.bump (0 + ops0.toList.length)) sB ∧ Run C ops1 sB.nx 0 ops1.toList sB fun s => Fits C (s.bump (sB.nx + ops1.toList.length)) TA)
    (hTA : TA.tv gi = .c (.im (.fn gf cs)) ∧ TA.tv d = .c (.ptr 0 0) ∧ TA.nt = nt ∧ TA.ex = [] ∧ TA.h = (T []).h ∧ TA.nx = (T []).nx)
    (hT : ∀ pre, (T pre).t = [(d, .c (.ptr 0 0))] ∧ (T pre).nt = nt ∧ (T pre).ex = [] ∧ (T pre).used 0 ∧ allOwn (T pre)) (hTM : ∀ pre x, (TMx pre x).ex = [] ∧ (TMx pre x).used 0 ∧ allOwn (TMx pre x))
    (hit : ItC P gf (cs.map fun c => .c (.im c)) tv S N) (htv : ∀ x, fzT (tv x) = true)
    (h2 : ∀ C : Ctx, C.P = P → C.np = 1 → ∀ pre x, pre.length < N → Run C ops2 (T pre).nx 0 ops2.toList ((T pre).put (some p) (tv x)) fun s1 => Fits C (s1.bump ((T pre).nx + ops2.toList.length)) (TMx pre x))
    (h3 : ∀ C : Ctx, C.P = P → C.np = 1 → ∀ pre x, pre.length < N → Run C ops3 (TMx pre x).nx 0 ops3.toList (TMx pre x) fun s2 => Fits C (s2.bump ((TMx pre x).nx + ops3.toList.length)) (T (pre ++ [x])))
    (h4 : ∀ C : Ctx, C.P = P → C.np = 0 → ∀ ys, S ys → Run C ops4 (T ys).nx 0 ops4.toList (T ys) fun s => ∃ s5 r, Fits C (s.bump ((T ys).nx + ops4.toList.length)) s5 ∧ s5.resG P rs = some r ∧ s5.ex = [] ∧ s1 ys = { t := [(0, r)], h := s5.h, nx := s5.nx, ex := [], nt := 1 }) :
    GCallE P f 0 (St.g args [] 0) S s1 := by
  obtain ⟨hname, hnt, hrs⟩ := hfn
  refine ⟨⟨fn, hf, by rw [hb]; rfl, hname⟩, fun C hC hnp vs w L hs => ?_⟩
  subst hC
  have hsz : vs.length = args.length := by have := hs.nt; simpa [St.g] using this
  have hsim : Sim C ⟨idx 0 args, [], 0, [], nt⟩ { tmps := vs.toArray ++ Array.replicate (fn.ntmps - vs.toArray.size) undef, defers := [] } w L := by
    refine ⟨hs.os, hs.tape, hs.output, hs.size, hs.kept, by simp; omega, fun i => ?_, hs.ob, hs.inj, hs.own, rfl, hs.pin⟩
    have h1 := hs.tm i
    have : (vs.toArray ++ Array.replicate (fn.ntmps - vs.toArray.size) undef).getD i undef = vs.toArray.getD i undef := by
      rw [Array.getD_eq_getD_getElem?, Array.getD_eq_getD_getElem?, Array.getElem?_append]
      split
      · rfl
      · rename_i hi
        rw [Array.getElem?_replicate, Array.getElem?_eq_none (xs := vs.toArray) (by omega)]
        split <;> rfl
    show RepT C.P _ w _ L ((vs.toArray ++ Array.replicate (fn.ntmps - vs.toArray.size) undef).getD i undef) _
    rw [this]
    exact h1
  refine (callsIn_wide (n := 5)).1 (callsIn_of_wp_marks hf hb trivial ?_ rfl)
  refine wpIn_seq (reg_in (a := { tmps := vs.toArray ++ Array.replicate (fn.ntmps - vs.toArray.size) undef, defers := [] }) (.inl rfl) [] rfl (h0 C rfl hnp) ⟨L, hsim⟩ fun s a1 w1 hK hS1 => ?_)
  obtain ⟨sB, hexB, hfB, hrun1⟩ := hK
  refine wpIn_seq (wpIn_seq (reg_in (a := a1) (.inl rfl) [] hexB hrun1 (hfB _ _ hS1) fun s a2 w2 hK2 hS2 => ?_))
  obtain ⟨LA, hA⟩ := hK2 _ _ hS2
  have ha2 : ({ a2 with defers := [] } : Act) = a2 := by have := hA.defers; cases a2; simp only at this; rw [this]
  rw [ha2]
  obtain ⟨tg, td, tnt, tex, th, tnx⟩ := hTA
  have hTAu : ∀ k, TA.used k ↔ (T []).used k := fun k => by simp [St.used, tex, (hT []).2.2.1, tnx]
  have hTAo : ∀ k, TA.ob k = (T []).ob k := fun k => by simp [St.ob, th]
  have hgv := hA.tm gi
  rw [tg] at hgv
  have hgv : RepA C.P (okOf C TA LA) w2 (a2.tmps.getD gi undef) (.fn gf cs) := hgv
  obtain ⟨us, hgeq, hus⟩ : ∃ us : Nat → Value, a2.tmps.getD gi undef = .func (.func gf) #[] ((List.range cs.length).map us).toArray ∧ ∀ (i : Nat) (y : AV), cs[i]? = some y → RepA C.P (okOf C TA LA) w2 (us i) y := by
    generalize a2.tmps.getD gi undef = gv at hgv
    cases hgv with
    | fn us hr => exact ⟨us, rfl, hr⟩
  have hdv := hA.tm d
  rw [td] at hdv
  obtain ⟨_, Bs, hBs, hdv⟩ := hdv
  obtain ⟨D, hD⟩ : ∃ D, D = w2.heap.size := ⟨_, rfl⟩
  refine wpIn_block (wpIn_rangeFunc fun fn' hfn' => ?_)
  obtain ⟨rec, hrec⟩ : ∃ rec : Loop, rec = { state := .ready, pending := none, fn := fn', tmps := a2.tmps, params := #[p], assign := .region i2 ops2 false, body := .block b1 (.region i3 ops3 false), defers := D } := ⟨_, rfl⟩
  obtain ⟨W1, hW1⟩ : ∃ W1, (w2.alloc (.deferred (some []))).alloc (.loop rec) = W1 := ⟨_, rfl⟩
  have sW1 : W1.heap.size = D + 2 := by rw [← hW1, hD]; simp
  have hold : ∀ b, b < D → W1.heap[b]? = w2.heap[b]? := fun b hb => by
    rw [← hW1]; exact (Below.heap_alloc _ _ b (by simp; omega)).trans (Below.heap_alloc _ _ b (by omega))
  have hlW1 : W1.heap[D + 1]? = some (.loop rec) := by
    rw [← hW1]; have := World.alloc_heap_new (w2.alloc (.deferred (some []))) (.loop rec); rwa [World.size_alloc, ← hD] at this
  have hDW1 : W1.heap[D]? = some (.deferred (some [])) := by
    rw [← hW1, hD]; exact (Below.heap_alloc _ _ _ (by simp)).trans (World.alloc_heap_new w2 _)
  -- the caller's memory, as the iterator sees it
  obtain ⟨okA, hokA⟩ : ∃ okA : Nat → Prop, okA = fun b => okOf C TA LA b ∧ b < D := ⟨_, rfl⟩
  obtain ⟨B1, hB1⟩ : ∃ B1 : List Nat, B1 = (D + 1) :: D :: blksOf (T []) LA := ⟨_, rfl⟩
  have ownA : ∀ b ∈ blksOf (T []) LA, b < D ∧ (C.w0.heap.size ≤ b ∨ C.may b) ∧ ¬ okOf C TA LA b := fun b hb => by
    obtain ⟨k, o, hk, ho, hh⟩ := blksOf_own (hT []).2.2.2.2 hb
    rw [← hTAo] at hk
    have := hA.own k o b hk ho hh
    exact ⟨by rw [hD]; exact this.1, this.2, fun h => h.2 k o hk ho hh⟩
  have coreA : Core C.P (T []) (okOf C TA LA) (blksOf (T []) LA) w2 LA := by
    have h := hA.core
    refine ⟨fun k o hk => ?_, fun k k' o o' b h1 h2 => h.inj k k' o o' b (by rw [hTAo]; exact h1) (by rw [hTAo]; exact h2), fun k o b hk ho hh => ⟨blksOf_mem hk hh, (h.own k o b (by rw [hTAo]; exact hk) ho hh).2⟩⟩
    have := h.ob k o (by rw [hTAo]; exact hk)
    have hu : TA.used = (T []).used := funext fun k => propext (hTAu k)
    rw [hu] at this
    exact this
  have hJ0 : SeqJ C.P T Bs (D + 1) D rec [] okA B1 W1 := by
    refine ⟨LA, coreA.move (fun b hb hlt => ⟨by rw [hokA]; exact ⟨hb, by omega⟩, hold b (by omega)⟩) (fun k o b hk ho hh => ⟨hold b (ownA b (blksOf_mem hk hh)).1, ?_⟩), hBs, by rw [hB1]; simp, by rw [hB1]; simp, by omega, fun k o hk ho => ⟨fun hh => ?_, fun hh => ?_⟩, hlW1, hDW1⟩
    · rw [hB1]; exact List.mem_cons_of_mem _ (List.mem_cons_of_mem _ (blksOf_mem hk hh))
    · have := (ownA _ (blksOf_mem hk hh)).1; omega
    · have := (ownA _ (blksOf_mem hk hh)).1; omega
  have hYC : ∀ pre x, pre.length < N → YC C.P (D + 1) (SeqJ C.P T Bs (D + 1) D rec pre) (tv x) (SeqJ C.P T Bs (D + 1) D rec (pre ++ [x])) := fun pre x hlen =>
    seqJ_yield hrec (by have := hA.nt; omega) hdv hpd hpn hT hTM pre x (htv x) (fun C' h1 h2' => h2 C' h1 h2' pre x hlen) (fun C' h1 h2' => h3 C' h1 h2' pre x hlen)
  have hG := hit (D + 1) (SeqJ C.P T Bs (D + 1) D rec) (fun pre => seqJ_stable pre) hYC
  have hB1ok : ∀ b ∈ B1, ¬ okA b := fun b hb h => by
    rw [hokA] at h
    rw [hB1] at hb
    simp only [List.mem_cons] at hb
    rcases hb with rfl | rfl | hb
    · exact absurd h.2 (by omega)
    · exact absurd h.2 (by omega)
    · exact (ownA b hb).2.2 h.1
  let C2 : Ctx := ⟨C.P, W1, okA, fun b => b ∈ B1, 1, fun _ => (none, undef)⟩
  let L2 : Where := ⟨fun _ => none, fun _ => undef, fun k => if k = 0 then B1 else []⟩
  let J0 := SeqJ C.P T Bs (D + 1) D rec []
  let g0 : St := St.g (ft (.func (.yield (D + 1)) #[] #[]) :: cs.map fun c => .c (.im c)) [(0, .raw J0)] 1
  have hB1lt : ∀ b ∈ B1, b < W1.heap.size := fun b hb => by
    rw [hB1] at hb
    simp only [List.mem_cons] at hb
    rcases hb with rfl | rfl | hb
    · omega
    · omega
    · have := (ownA b hb).1; omega
  have hg0o : ∀ k o, g0.ob k = some o → k = 0 ∧ o = .raw J0 := fun k o hk => by
    have hk : lk [(0, Obj.raw J0)] k = some o := hk
    simp only [lk] at hk
    cases e : Nat.beq 0 k with
    | true => rw [e] at hk; cases hk; exact ⟨(beq_t e).symm, rfl⟩
    | false => rw [e] at hk; cases hk
  have hL2 : ∀ b, L2.has 0 b ↔ b ∈ B1 := fun b => by simp [Where.has, L2]
  have hok2 : ∀ b, okA b → okOf C2 g0 L2 b := fun b hb => ⟨fun _ => .inl hb, fun k o hk ho hh => by
    obtain ⟨rfl, rfl⟩ := hg0o k o hk
    exact hB1ok b ((hL2 b).1 hh) hb⟩
  have mvA : ∀ b, okOf C TA LA b → b < w2.heap.size → okOf C2 g0 L2 b ∧ W1.heap[b]? = w2.heap[b]? := fun b hb hlt => ⟨hok2 b (by rw [hokA]; exact ⟨hb, by omega⟩), hold b (by omega)⟩
  have hsim2 : Sim C2 g0 { tmps := (Value.func (.yield (D + 1)) #[] #[] :: (List.range cs.length).map us).toArray, defers := [] } W1 L2 := by
    refine ⟨rfl, rfl, ⟨rfl, Nat.le_refl _⟩, Nat.le_refl _, fun _ _ _ => rfl, by simp [g0, St.g], fun i => ?_, fun k o hk => ?_, fun k k' o o' b hk hk' _ _ _ _ => ?_, fun k o b hk ho hh => ?_, rfl, fun k hk => ?_⟩
    · have htv2 : g0.tv i = ((ft (.func (.yield (D + 1)) #[] #[]) :: cs.map fun c => TV.c (.im c))[i]?).getD (.c .dead) := by
        show (lk (idx 0 _) i).getD _ = _
        rw [lk_idx]; simp
      rw [htv2]
      cases i with
      | zero => exact RepA.flat rfl
      | succ j =>
        simp only [List.getElem?_cons_succ, List.getElem?_map]
        cases hc : cs[j]? with
        | none => exact trivial
        | some y =>
          have hj : j < cs.length := (List.getElem?_eq_some_iff.1 hc).1
          have : (Value.func (.yield (D + 1)) #[] #[] :: (List.range cs.length).map us).toArray.getD (j + 1) undef = us j := by
            rw [Array.getD_eq_getD_getElem?]; simp [List.getElem?_range hj]
          rw [this]
          exact (hus j y hc).move mvA
    · obtain ⟨rfl, rfl⟩ := hg0o k o hk
      refine ⟨.inl Nat.zero_lt_one, rfl, ?_, seqJ_stable _⟩
      show J0 _ (if (0 : Nat) = 0 then B1 else []) W1
      rw [if_pos rfl]
      exact seqJ_stable [] _ _ B1 W1 W1 hJ0 (fun b hb _ => ⟨hok2 b hb, rfl⟩) fun _ _ => rfl
    · rw [(hg0o k o hk).1, (hg0o k' o' hk').1]
    · obtain ⟨rfl, rfl⟩ := hg0o k o hk
      exact ⟨hB1lt b ((hL2 b).1 hh), .inr ((hL2 b).1 hh)⟩
    · obtain rfl : k = 0 := Nat.lt_one_iff.1 hk
      exact ⟨.inl Nat.zero_lt_one, rfl, rfl⟩
  have hcall := hG.2 C2 rfl rfl _ W1 L2 hsim2
  obtain ⟨gfn, g1, g2, g3⟩ := hG.1
  have hDl : D + 1 ≠ D := by omega
  refine ⟨D + 1, [{ target := .collected D, args := #[] }], W1, { target := .fn (.func gf) ((List.range cs.length).map us).toArray, args := #[.func (.yield (D + 1)) #[] #[]] }, W1, gf,
    (Value.func (.yield (D + 1)) #[] #[] :: (List.range cs.length).map us).toArray, W1, ?_, ?_, fun _ _ => trivial, ?_, fun h => absurd h (by simp [Fence.wide]), callsIn_wide.2 (hcall.mono ?_)⟩
  · rw [← hW1, hrec, hD]; exact run_enterLoop_outer _ _ _ _ _
  · have : a2.eval (.tmp gi) = .func (.func gf) #[] ((List.range cs.length).map us).toArray := hgeq
    simp only [resolve, this]
    simp [Deferred.ofValue, Sem.run_bind]
    rfl
  · have g4 : gfn.body.isNone = false := by cases hb : gfn.body <;> simp_all
    have g5 : ¬ gfn.name = "runtime.NumGoroutine" := by simpa using g3
    simp [invoke, callFunc, Sem.run_bind, g1, g5]
    intro hb
    rw [hb] at g2
    simp at g2
  rintro e W2 ⟨v, L', he, hs'⟩
  subst he
  obtain ⟨_, _, ⟨ys, hS, LE, coreE, hBsE, hlE, hDE, _, noE, hlW2, hDW2⟩, _⟩ := hs'.ob 0 _ rfl
  obtain ⟨okE, hokE⟩ : ∃ okE : Nat → Prop, okE = okOf C2 (St.r (.t []) [(0, .raw fun ok B w => ∃ ys, S ys ∧ SeqJ C.P T Bs (D + 1) D rec ys ok B w)] 1) L' := ⟨_, rfl⟩
  rw [← hokE] at coreE
  have ownE : ∀ b ∈ L'.sub 0, b < W2.heap.size ∧ (W1.heap.size ≤ b ∨ b ∈ B1) := fun b hb => hs'.own 0 _ b rfl rfl (.inr hb)
  have okEn : ∀ b ∈ L'.sub 0, ¬ okE b := fun b hb h => by rw [hokE] at h; exact h.2 0 _ rfl rfl (.inr hb)
  have okEc : ∀ b, okE b → b < W1.heap.size → okA b ∨ b ∈ B1 := fun b h => by rw [hokE] at h; exact h.1
  have keptE : ∀ b, b < W1.heap.size → b ∉ B1 → W2.heap[b]? = W1.heap[b]? := hs'.kept
  have sW2 : W1.heap.size ≤ W2.heap.size := hs'.size
  have hend := run_endLoop (P := C.P) hlW2 (by rw [hrec]; simp)
  obtain ⟨W3, hW3⟩ : ∃ W3, W2.putObj (D + 1) (.loop { rec with state := .exhausted }) = W3 := ⟨_, rfl⟩
  rw [hW3] at hend
  have hpend : rec.pending = none := by rw [hrec]
  rw [hpend] at hend
  have sW3 : W3.heap.size = W2.heap.size := by rw [← hW3]; simp [World.putObj]
  have oth3 : ∀ b, b ≠ D + 1 → W3.heap[b]? = W2.heap[b]? := fun b hb => by rw [← hW3]; exact World.putObj_heap_other hb
  have okEl : ¬ okE (D + 1) := okEn _ hlE
  have okED : ¬ okE D := okEn _ hDE
  obtain ⟨q1, q2, q3, q4, q5⟩ := hT ys
  let may4 : Nat → Prop := fun b => b ∈ blksOf (T ys) LE
  have may4E : ∀ b, may4 b → b ∈ L'.sub 0 ∧ b ≠ D + 1 ∧ b ≠ D := fun b hb => by
    obtain ⟨k, o, hk, ho, hh⟩ := blksOf_own q5 hb
    exact ⟨(coreE.own k o b hk ho hh).1, fun e => (noE k o hk ho).1 (e ▸ hh), fun e => (noE k o hk ho).2 (e ▸ hh)⟩
  have coreE3 : Core C.P (T ys) okE (L'.sub 0) W3 LE := coreE.move (fun b hb _ => ⟨hb, oth3 b fun e => okEl (e ▸ hb)⟩) fun k o b hk ho hh => ⟨oth3 b (may4E b (blksOf_mem hk hh)).2.1, (coreE.own k o b hk ho hh).1⟩
  have hant : a2.tmps.size = nt := by have := hA.nt; omega
  have hsim4 : Sim ⟨C.P, W3, okE, may4, 0, fun k => (LE.blk k, LE.hv k)⟩ (T ys) { tmps := a2.tmps, defers := [] } W3 LE := by
    refine coreE3.sim okEn (by rw [hant, q2]) (fun i => ?_) may4 (fun k o b hk ho hh => blksOf_mem hk hh) (fun k hk => absurd hk (Nat.not_lt_zero k))
    show RepT C.P okE W3 _ LE _ ((lk (T ys).t i).getD (.c .dead))
    rw [q1]
    simp only [lk]
    cases hbd : Nat.beq d i with
    | false => exact trivial
    | true =>
      obtain rfl := beq_t hbd
      exact ⟨q4, Bs, hBsE, hdv⟩
  refine ⟨none, W3, hend, ?_⟩
  have hda : a2.defers = [] := hA.defers
  show ((Code.region i4 ops4 false).seq Code.ret).wpIn Fence.wide 5 C.P _ { a2 with defers := [{ target := .collected D, args := #[] }] ++ a2.defers } W3
  rw [hda, List.append_nil]
  refine wpIn_seq (reg_in (a := { tmps := a2.tmps, defers := [] }) (.inl rfl) [{ target := .collected D, args := #[] }] q3 (h4 ⟨C.P, W3, okE, may4, 0, fun k => (LE.blk k, LE.hv k)⟩ rfl rfl ys hS) ⟨LE, hsim4⟩ fun s a5 W5 hK hS5 => ?_)
  obtain ⟨s5, r, hf5, hr, hex5, hs1e⟩ := hK
  obtain ⟨L5, h5⟩ := hf5 _ _ hS5
  have kept5 : ∀ b, b < W3.heap.size → ¬ may4 b → W5.heap[b]? = W3.heap[b]? := h5.kept
  have sW5 : W3.heap.size ≤ W5.heap.size := h5.size
  have hD5 : W5.heap[D]? = some (.deferred (some [])) := by
    rw [kept5 D (by omega) (fun h => (may4E D h).2.2 rfl), oth3 D (by omega)]; exact hDW2
  obtain ⟨W6, hW6⟩ : ∃ W6, W5.putObj D (.deferred none) = W6 := ⟨_, rfl⟩
  have sW6 : W6.heap.size = W5.heap.size := by rw [← hW6]; simp [World.putObj]
  have oth6 : ∀ b, b ≠ D → W6.heap[b]? = W5.heap[b]? := fun b hb => by rw [← hW6]; exact World.putObj_heap_other hb
  have htake := run_takeDeferred (P := C.P) hD5
  rw [hW6] at htake
  obtain ⟨ok5, hok5⟩ : ∃ ok5 : Nat → Prop, ok5 = okOf ⟨C.P, W3, okE, may4, 0, fun k => (LE.blk k, LE.hv k)⟩ s5 L5 := ⟨_, rfl⟩
  have core5 : Core C.P s5 ok5 (blksOf s5 L5) W5 L5 := by rw [hok5]; exact h5.core
  have ok5c : ∀ b, ok5 b → b < W3.heap.size → okE b ∨ may4 b := fun b h => by rw [hok5] at h; exact h.1
  have ok5D : ¬ ok5 D := fun h => by
    rcases ok5c D h (by omega) with h | h
    · exact okED h
    · exact (may4E D h).2.2 rfl
  have own5 : ∀ k o b, s5.ob k = some o → o.owns = true → L5.has k b → b < W5.heap.size ∧ (W3.heap.size ≤ b ∨ may4 b) := h5.own
  have no5D : ∀ k o b, s5.ob k = some o → o.owns = true → L5.has k b → b ≠ D := fun k o b hk ho hh e => by
    subst e
    rcases (own5 k o b hk ho hh).2 with h | h
    · omega
    · exact (may4E b h).2.2 rfl
  have core6 : Core C.P s5 ok5 (blksOf s5 L5) W6 L5 := core5.move (fun b hb _ => ⟨hb, oth6 b fun e => ok5D (e ▸ hb)⟩) fun k o b hk ho hh => ⟨oth6 b (no5D k o b hk ho hh), blksOf_mem hk hh⟩
  have szA : C.w0.heap.size ≤ w2.heap.size := hA.size
  -- what the caller's caller may find turned
  have mayC : ∀ b, b ∈ L'.sub 0 → C.w0.heap.size ≤ b ∨ C.may b := fun b hb => by
    rcases (ownE b hb).2 with h | h
    · exact .inl (by omega)
    · rw [hB1] at h
      simp only [List.mem_cons] at h
      rcases h with rfl | rfl | h
      · exact .inl (by omega)
      · exact .inl (by omega)
      · exact (ownA b h).2.1
  have hsim6 : Sim C s5 { tmps := a5.tmps, defers := [] } W6 L5 := by
    refine core6.toSim ?_ ?_ ?_ (by omega) (fun b hb hm => ?_) h5.nt (fun i => ?_) (fun b hb hlt hlt0 => ?_) (fun k o b hk ho hh => ⟨fun h => ?_, ?_⟩) (fun k hk => absurd hk (by rw [hnp]; exact Nat.not_lt_zero k))
    · have e1 : W6.os = W5.os := by rw [← hW6]; rfl
      have e2 : W5.os = W3.os := h5.os
      have e3 : W3.os = W2.os := by rw [← hW3]; rfl
      have e4 : W2.os = W1.os := hs'.os
      have e5 : W1.os = w2.os := by rw [← hW1]; rfl
      rw [e1, e2, e3, e4, e5]; exact hA.os
    · have e1 : W6.tape = W5.tape := by rw [← hW6]; rfl
      have e2 : W5.tape = W3.tape := h5.tape
      have e3 : W3.tape = W2.tape := by rw [← hW3]; rfl
      have e4 : W2.tape = W1.tape := hs'.tape
      have e5 : W1.tape = w2.tape := by rw [← hW1]; rfl
      rw [e1, e2, e3, e4, e5]; exact hA.tape
    · have e1 : W6.output = W5.output ∧ W6.drawn = W5.drawn := by rw [← hW6]; exact ⟨rfl, rfl⟩
      have e2 : W5.output = W3.output ∧ W3.drawn ≤ W5.drawn := h5.output
      have e3 : W3.output = W2.output ∧ W3.drawn = W2.drawn := by rw [← hW3]; exact ⟨rfl, rfl⟩
      have e4 : W2.output = W1.output ∧ W1.drawn ≤ W2.drawn := hs'.output
      have e5 : W1.output = w2.output ∧ W1.drawn = w2.drawn := by rw [← hW1]; exact ⟨rfl, rfl⟩
      have e6 := hA.output
      exact ⟨by rw [e1.1, e2.1, e3.1, e4.1, e5.1]; exact e6.1, by omega⟩
    · have hbD : b < D := by omega
      have hnB : b ∉ B1 := fun h => by
        rw [hB1] at h
        simp only [List.mem_cons] at h
        rcases h with rfl | rfl | h
        · omega
        · omega
        · rcases (ownA b h).2.1 with h | h
          · omega
          · exact hm h
      have hn4 : ¬ may4 b := fun h => by
        rcases mayC b (may4E b h).1 with h | h
        · omega
        · exact hm h
      rw [oth6 b (by omega), kept5 b (by omega) hn4, oth3 b (by omega), keptE b (by omega) hnB, hold b hbD]
      exact hA.kept b hb hm
    · have := h5.tm i
      rw [← hok5] at this
      exact this.move (fun b hb _ => ⟨hb, oth6 b fun e => ok5D (e ▸ hb)⟩) (fun _ h => h) (Where.upto_refl _ _)
    · rcases ok5c b hb (by omega) with h | h
      · rcases okEc b h (by omega) with h | h
        · rw [hokA] at h
          exact h.1.1 hlt0
        · rw [hB1] at h
          simp only [List.mem_cons] at h
          rcases h with rfl | rfl | h
          · omega
          · omega
          · rcases (ownA b h).2.1 with h | h
            · omega
            · exact .inr h
      · rcases mayC b (may4E b h).1 with h | h
        · omega
        · exact .inr h
    · rw [hok5] at h
      exact h.2 k o hk ho hh
    · rcases (own5 k o b hk ho hh).2 with h | h
      · exact .inl (by omega)
      · exact mayC b (may4E b h).1
  refine wpIn_ret ⟨by simp, .inl ⟨D, W6, rfl, htake, ?_⟩⟩
  obtain ⟨v', hv1, hv2⟩ := hsim6.resG (fn := fn) (by rw [hrs]; exact hr)
  refine ⟨v', hv1, ys, v', L5, hS, rfl, ?_⟩
  rw [hs1e]
  have hu : s5.used = St.used { t := [(0, r)], h := s5.h, nx := s5.nx, ex := [], nt := 1 } := by
    funext k; simp [St.used, hex5]
  refine ⟨hsim6.os, hsim6.tape, hsim6.output, hsim6.size, hsim6.kept, rfl, fun i => ?_, fun k o hk => ?_, hsim6.inj, hsim6.own, rfl, fun k hk => absurd hk (by rw [hnp]; exact Nat.not_lt_zero k)⟩
  · cases i with
    | zero =>
      show RepT C.P (okOf C s5 L5) W6 _ L5 v' r
      rw [← hu]; exact hv2
    | succ i =>
      show RepT C.P _ W6 _ L5 _ (.c .dead)
      trivial
  · have := hsim6.ob k o hk
    rw [hu] at this
    exact this
end Go.Exe
/-
  Yd: calls by contracts whose end is told up to a choice; frozen closures: made, and called.
-/
namespace Go.Exe
open Go.RowKit
section
variable {C : Ctx} {s : St}
theorem Sim.gcallE {β : Type} {S : β → Prop} {a : Act} {w : World} {L : Where} (hs : Sim C s a w L) {f : Nat} {r : List Nat} {np k nx1 : Nat} {ys : List Operand} {caps : List (Nat × Nat)} {cvs : List Value} {rv : β → TV} {h1 : β → List (Nat × Obj)}
    {fvs : List Value} {fz : List AV} (hfz : Al (RepA C.P (okOf C s L) w) fvs fz)
    (hc : GCallE C.P f np (St.g (gArgs (frC 0 r) s ys ++ (fz.map (fun x => .c (.im x)) ++ capArgs (frC 0 r) caps)) (fitH (frC 0 r) s (frC 0 r)) r.length) S fun b => St.r (rv b) (h1 b) nx1) (hcv : Al (fun u (p : Nat × Nat) => s.used p.1 ∧ ∃ b, L.blk p.1 = some b ∧ u = .pointer (some ⟨b, p.2, none⟩)) cvs caps)
    (hn : r.Nodup) (ho1 : ownAll s r = true) (hnp : np ≤ r.length) (ho2 : ∀ b, S b → ownUp (St.r (rv b) (h1 b) nx1) np = true) (hnx : nx1 ≤ np + 1) (hk : ¬ s.used k) :
    Calls C.P f (ys.map a.eval ++ (fvs ++ cvs)).toArray w fun e w' => ∃ b v L', S b ∧ e = .returned v ∧ Sim C (s.ups (gUpd r np k (St.r (rv b) (h1 b) nx1))) a w' L' ∧ RepT C.P (okOf C (s.ups (gUpd r np k (St.r (rv b) (h1 b) nx1))) L') w' (s.ups (gUpd r np k (St.r (rv b) (h1 b) nx1))).used L' v (rnT (toC r np k ((St.r (rv b) (h1 b) nx1).ob np)) (rv b)) := by
  have hrk : ∀ i j, r[i]? = some j → ∃ o, s.ob j = some o ∧ o.owns = true := fun i j h => ownAll_spec ho1 j (List.mem_of_getElem? h)
  have hkr : k ∉ r := fun h => by obtain ⟨i, hi⟩ := List.getElem?_of_mem h; obtain ⟨o, ho, _⟩ := hrk i k hi; exact hk (hs.ob k o ho).1
  have hkob : s.ob k = none := by cases ho : s.ob k with
    | none => rfl
    | some o => exact absurd (hs.ob k o ho).1 hk
  let C1 : Ctx := { P := C.P, w0 := w, ok0 := okOf C s L, may := fun b => ∃ (i j : Nat), r[i]? = some j ∧ L.has j b, np := np, pblk := fun i => match r[i]? with | some j => (L.blk j, L.hv j) | none => (none, undef) }
  let L1 : Where := ⟨fun i => match r[i]? with | some j => L.blk j | none => none, fun i => match r[i]? with | some j => L.hv j | none => undef, fun i => match r[i]? with | some j => L.sub j | none => []⟩
  let s0 := St.g (gArgs (frC 0 r) s ys ++ (fz.map (fun x => .c (.im x)) ++ capArgs (frC 0 r) caps)) (fitH (frC 0 r) s (frC 0 r)) r.length
  have hfr : RenFits (frC 0 r) s0.used L L1 := by
    intro j i hj
    obtain ⟨i', h2, rfl⟩ := lk_frC_some _ _ _ _ hj
    rw [Nat.zero_add]
    refine ⟨.inl (List.getElem?_eq_some_iff.1 h2).1, ?_, ?_, ?_⟩ <;> simp [L1, h2]
  have hob0 : ∀ i o', s0.ob i = some o' → ∃ j o, r[i]? = some j ∧ s.ob j = some o ∧ rnO (frC 0 r) o = some o' ∧ lk (frC 0 r) j = some i := by
    intro i o' h
    obtain ⟨j, o, h2, h3, h4⟩ := lk_fitH (frC 0 r) s h
    obtain ⟨i', h5, h6⟩ := mem_frC _ _ _ _ h2
    rw [Nat.zero_add] at h6; subst h6
    exact ⟨j, o, h5, h3, h4, by rw [lk_frC r 0 j hn i h5, Nat.zero_add]⟩
  have hhas1 : ∀ i j b, r[i]? = some j → (L1.has i b ↔ L.has j b) := by
    intro i j b h
    simp [Where.has, L1, h]
  have hok1 : ∀ b, okOf C s L b → b < w.heap.size → okOf C1 s0 L1 b := fun b hb _ => ⟨fun _ => .inl hb, fun i o' hi ho => by
    obtain ⟨j, o, h2, h3, h4, _⟩ := hob0 i o' hi
    rw [hhas1 i j b h2]
    exact hb.2 j o h3 (by rw [← rnO_owns h4]; exact ho)⟩
  have hfz1 : Al (RepT C.P (okOf C1 s0 L1) w s0.used L1) fvs (fz.map fun x => .c (.im x)) := ⟨by rw [List.length_map]; exact hfz.1, fun i u c hu hc => by
    simp only [List.getElem?_map, Option.map_eq_some_iff] at hc
    obtain ⟨x, hx, rfl⟩ := hc
    exact RepA.mono (hfz.2 i u x hu hx) hok1⟩
  have hargs : Al (RepT C.P (okOf C1 s0 L1) w s0.used L1) (ys.map a.eval ++ (fvs ++ cvs)) (gArgs (frC 0 r) s ys ++ (fz.map (fun x => .c (.im x)) ++ capArgs (frC 0 r) caps)) := (al_gArgs hfr hok1 hs.ev ys).append (hfz1.append (al_caps hfr hok1 hcv))
  have hmay : ∀ b, C1.may b → (b < w.heap.size ∧ (C.w0.heap.size ≤ b ∨ C.may b)) ∧ ¬ okOf C s L b := by
    rintro b ⟨i, j, h2, h3⟩
    obtain ⟨o, ho, hoo⟩ := hrk i j h2
    exact ⟨hs.own j o b ho hoo h3, fun hb => hb.2 j o ho hoo h3⟩
  have hsim : Sim C1 s0 { tmps := (ys.map a.eval ++ (fvs ++ cvs)).toArray, defers := [] } w L1 := by
    refine ⟨rfl, rfl, ⟨rfl, Nat.le_refl _⟩, Nat.le_refl _, fun _ _ _ => rfl, ?_, fun i => ?_, fun i o' hi => ?_, fun i i' o o' b hi hi' ho ho' hb hb' => ?_, fun i o' b hi ho hb => ?_, rfl, fun i hi => ?_⟩
    · show (ys.map a.eval ++ (fvs ++ cvs)).toArray.size = (gArgs (frC 0 r) s ys ++ (fz.map (fun x => TV.c (.im x)) ++ capArgs (frC 0 r) caps)).length
      rw [List.size_toArray]; exact hargs.1
    · show RepT _ _ _ _ _ _ ((lk (idx 0 (gArgs (frC 0 r) s ys ++ (fz.map (fun x => TV.c (.im x)) ++ capArgs (frC 0 r) caps))) i).getD (.c .dead))
      rw [lk_idx, if_pos (Nat.zero_le _), Nat.sub_zero]
      cases hi : (gArgs (frC 0 r) s ys ++ (fz.map (fun x => TV.c (.im x)) ++ capArgs (frC 0 r) caps))[i]? with
      | none => trivial
      | some x =>
        obtain ⟨v, hv, hr⟩ := hargs.get_right hi
        have : (ys.map a.eval ++ (fvs ++ cvs)).toArray.getD i undef = v := by
          rw [Array.getD_eq_getD_getElem?, List.getElem?_toArray, hv]; rfl
        rw [this]; exact hr
    · obtain ⟨j, o, h2, h3, h4, h5⟩ := hob0 i o' hi
      exact ⟨.inl (List.getElem?_eq_some_iff.1 h2).1, (hs.ob j o h3).2.ren h5 h4 hfr hok1⟩
    · obtain ⟨j, o1, h2, h3, h4, _⟩ := hob0 i o hi
      obtain ⟨j', o2, h2', h3', h4', _⟩ := hob0 i' o' hi'
      rw [hhas1 i j b h2] at hb
      rw [hhas1 i' j' b h2'] at hb'
      have := hs.inj j j' o1 o2 b h3 h3' (by rw [← rnO_owns h4]; exact ho) (by rw [← rnO_owns h4']; exact ho') hb hb'
      subst this
      have e1 := lk_frC r 0 j hn i h2
      have e2 := lk_frC r 0 j hn i' h2'
      rw [e1] at e2
      have := Option.some.inj e2
      omega
    · obtain ⟨j, o1, h2, h3, h4, _⟩ := hob0 i o' hi
      rw [hhas1 i j b h2] at hb
      exact ⟨(hs.own j o1 b h3 (by rw [← rnO_owns h4]; exact ho) hb).1, .inr ⟨i, j, h2, hb⟩⟩
    · have hi : i < r.length := Nat.lt_of_lt_of_le hi hnp
      exact ⟨.inl hi, by simp [L1, C1, List.getElem?_eq_getElem hi]⟩
  refine (hc.2 C1 rfl rfl _ w L1 hsim).mono fun e w' ⟨bb, v, L2, hSb, he, hs1⟩ => ?_
  let q := St.r (rv bb) (h1 bb) nx1
  have ho2 : ownUp (St.r (rv bb) (h1 bb) nx1) np = true := ho2 bb hSb
  let τ := toC r np k (q.ob np)
  let U0 := gUpd r np k q
  let L' : Where := ⟨fun j => if j = k then L2.blk np else L.blk j, fun j => if j = k then L2.hv np else L.hv j, fun j => if j = k then L2.sub np else match lk (frC 0 r) j with | some i => L2.sub i | none => L.sub j⟩
  have hq : ∀ i o, q.ob i = some o → i ≤ np := fun i o h => by
    have := (hs1.ob i o h).1
    rcases this with h2 | h2
    · have : i < nx1 := h2
      omega
    · simp [q, St.r] at h2
  have hpin : ∀ i j, i < np → r[i]? = some j → L2.blk i = L.blk j ∧ L2.hv i = L.hv j := fun i j hi hj => by
    have := (hs1.pin i hi).2
    simpa [C1, hj] using this
  have hob : ∀ j, (s.ups U0).ob j = if j = k then (q.ob np).bind (rnO τ) else match lk (frC 0 r) j with | some i => if i < np then (q.ob i).bind (rnO τ) else none | none => s.ob j := by
    intro j
    have hst : ∀ n l, lastO j (gSets τ q n l) = lastO j (gSets τ q n l) := fun _ _ => rfl
    have hnt : (r.take np).Nodup := hn.sublist (List.take_sublist _ _)
    rw [ups_ob]
    show ((lastO j (gDels (r.drop np) ++ (gNew τ k (q.ob np) ++ gSets τ q 0 (r.take np)))).getD (s.ob j)) = _
    rw [lastO_append, lastO_append, lastO_gDels, lastO_gNew]
    by_cases hjk : j = k
    · subst hjk
      rw [(lastO_gSets τ q j _ 0).1 (fun h => hkr (List.mem_of_mem_take h)), if_neg (fun h => hkr (List.mem_of_mem_drop h)), if_pos rfl, if_pos rfl]
      cases hx : (q.ob np).bind (rnO τ) with
      | none => simp [hkob]
      | some o => simp
    · rw [if_neg hjk, if_neg hjk]
      by_cases hjr : j ∈ r
      · obtain ⟨i, hi⟩ := List.getElem?_of_mem hjr
        rw [lk_frC r 0 j hn i hi]
        simp only [Nat.zero_add]
        by_cases hin : i < np
        · rw [(lastO_gSets τ q j _ 0).2 hnt i (by rw [List.getElem?_take, if_pos hin]; exact hi), if_pos hin]
          simp
        · rw [(lastO_gSets τ q j _ 0).1 (fun h => ?_), if_neg hin, if_pos (List.mem_of_getElem? (show (r.drop np)[i - np]? = some j by rw [List.getElem?_drop, show np + (i - np) = i by omega]; exact hi))]
          · simp
          · obtain ⟨i2, hi2⟩ := List.getElem?_of_mem h
            rw [List.getElem?_take] at hi2
            split at hi2
            · have e1 := lk_frC r 0 j hn i hi
              have e2 := lk_frC r 0 j hn i2 hi2
              rw [e1] at e2
              have := Option.some.inj e2
              omega
            · cases hi2
      · rw [(lastO_gSets τ q j _ 0).1 (fun h => hjr (List.mem_of_mem_take h)), if_neg (fun h => hjr (List.mem_of_mem_drop h)), lk_frC_none r 0 j hjr]
        simp
  have hU : ∀ j, s.used j → (s.ups U0).used j := fun j hj => (ups_used _ _ _).2 (.inr hj)
  have hUk : ∀ o, q.ob np = some o → (s.ups U0).used k := fun o ho => (ups_used _ _ _).2 (.inl (by
    obtain ⟨o', ho'⟩ := rnO_some τ o
    refine ⟨.new k o', ?_, rfl⟩
    show _ ∈ gDels (r.drop np) ++ (gNew τ k (q.ob np) ++ gSets τ q 0 (r.take np))
    rw [ho]
    simp [gNew, ho']))
  have hτ : ∀ i j, lk τ i = some j → (i < np ∧ r[i]? = some j) ∨ (i = np ∧ j = k ∧ ∃ o, q.ob np = some o) := by
    intro i j h
    have h1 : ∀ j, lk (idx 0 (r.take np)) i = some j → i < np ∧ r[i]? = some j := by
      intro j h
      rw [lk_idx, if_pos (Nat.zero_le _), Nat.sub_zero, List.getElem?_take] at h
      split at h
      · rename_i hi; exact ⟨hi, h⟩
      · cases h
    cases hx : q.ob np with
    | none => simp only [τ, hx, toC] at h; exact .inl (h1 j h)
    | some o =>
      simp only [τ, hx, toC, lk_append] at h
      cases hy : lk (idx 0 (r.take np)) i with
      | some j' => rw [hy] at h; simp at h; subst h; exact .inl (h1 _ hy)
      | none =>
        rw [hy] at h
        simp only [Option.none_or, lk] at h
        cases hb : Nat.beq np i with
        | true => rw [hb] at h; simp at h; exact .inr ⟨(beq_t hb).symm, h.symm, o, rfl⟩
        | false => rw [hb] at h; simp at h
  have hτ2 : ∀ i j, i < np → r[i]? = some j → lk τ i = some j := by
    intro i j hi hj
    have h1 : lk (idx 0 (r.take np)) i = some j := by rw [lk_idx, if_pos (Nat.zero_le _), Nat.sub_zero, List.getElem?_take, if_pos hi]; exact hj
    cases hx : q.ob np with
    | none => simp only [τ, hx, toC]; exact h1
    | some o => simp only [τ, hx, toC, lk_append, h1]; rfl
  have hτk : ∀ o, q.ob np = some o → lk τ np = some k := by
    intro o hx
    have h1 : lk (idx 0 (r.take np)) np = none := by
      rw [lk_idx, if_pos (Nat.zero_le _), Nat.sub_zero, List.getElem?_take, if_neg (Nat.lt_irrefl _)]
    simp only [τ, hx, toC, lk_append, h1]
    simp [lk]
  have hrt : RenFits τ (s.ups U0).used L2 L' := by
    intro i j h
    rcases hτ i j h with ⟨h2, h3⟩ | ⟨rfl, rfl, o, ho⟩
    · have hjk : j ≠ k := fun e => hkr (e ▸ List.mem_of_getElem? h3)
      obtain ⟨o, ho, _⟩ := hrk i j h3
      obtain ⟨p1, p2⟩ := hpin i j h2 h3
      refine ⟨hU j (hs.ob j o ho).1, ?_, ?_, ?_⟩
      · simp [L', hjk, p1]
      · simp [L', hjk, p2]
      · simp [L', hjk, lk_frC r 0 j hn i h3]
    · exact ⟨hUk o ho, by simp [L'], by simp [L'], by simp [L']⟩
  have hhas : ∀ i j b, lk τ i = some j → (L'.has j b ↔ L2.has i b) := fun i j b h => by
    obtain ⟨_, h2, _, h4⟩ := hrt i j h
    unfold Where.has
    rw [h2, h4]
  have hhasO : ∀ j b, j ≠ k → j ∉ r → (L'.has j b ↔ L.has j b) := fun j b h h2 => by simp [Where.has, L', h, lk_frC_none r 0 j h2]
  -- an object of the new state: the callee's, or one that was not handed in
  have cls : ∀ j o, (s.ups U0).ob j = some o → (∃ i o1, lk τ i = some j ∧ q.ob i = some o1 ∧ rnO τ o1 = some o) ∨ (s.ob j = some o ∧ j ∉ r ∧ j ≠ k) := by
    intro j o h
    rw [hob] at h
    split at h
    · rename_i e; subst e
      obtain ⟨o1, h2, h3⟩ := Option.bind_eq_some_iff.1 h
      exact .inl ⟨np, o1, hτk o1 h2, h2, h3⟩
    · rename_i hjk
      split at h
      · rename_i i hi
        split at h
        · rename_i hin
          obtain ⟨i', h4, h5⟩ := lk_frC_some _ _ _ _ hi
          rw [Nat.zero_add] at h5; subst h5
          obtain ⟨o1, h2, h3⟩ := Option.bind_eq_some_iff.1 h
          exact .inl ⟨i, o1, hτ2 i j hin h4, h2, h3⟩
        · cases h
      · rename_i hi
        refine .inr ⟨h, fun hjr => ?_, hjk⟩
        obtain ⟨i, h4⟩ := List.getElem?_of_mem hjr
        rw [lk_frC r 0 j hn i h4] at hi
        cases hi
  have hnew : ∀ i o1 b, q.ob i = some o1 → o1.owns = true → L2.has i b → b < w'.heap.size ∧ (w.heap.size ≤ b ∨ C1.may b) := fun i o1 b h2 h3 h4 => hs1.own i o1 b h2 h3 h4
  have hok2 : ∀ b, okOf C s L b → b < w.heap.size → okOf C (s.ups U0) L' b := by
    intro b hb hlt
    refine ⟨hb.1, fun j o hj ho hx => ?_⟩
    rcases cls j o hj with ⟨i, o1, h2, h3, h4⟩ | ⟨h2, h3, h4⟩
    · rw [hhas i j b h2] at hx
      rcases (hnew i o1 b h3 (by rw [← rnO_owns h4]; exact ho) hx).2 with h5 | h5
      · omega
      · exact (hmay b h5).2 hb
    · rw [hhasO j b h4 h3] at hx
      exact hb.2 j o h2 ho hx
  have hok3 : ∀ b, okOf C1 q L2 b → b < w'.heap.size → okOf C (s.ups U0) L' b := by
    intro b hb hlt'
    refine ⟨fun h0 => ?_, fun j o hj ho hx => ?_⟩
    · have hlt : b < w.heap.size := Nat.lt_of_lt_of_le h0 hs.size
      rcases hb.1 hlt with h2 | h2
      · exact h2.1 h0
      · rcases (hmay b h2).1.2 with h3 | h3
        · omega
        · exact .inr h3
    · rcases cls j o hj with ⟨i, o1, h2, h3, h4⟩ | ⟨h2, h3, h4⟩
      · rw [hhas i j b h2] at hx
        exact hb.2 i o1 h3 (by rw [← rnO_owns h4]; exact ho) hx
      · rw [hhasO j b h4 h3] at hx
        have hlt := (hs.own j o b h2 ho hx).1
        rcases hb.1 hlt with h5 | ⟨i, j', h5, h6⟩
        · exact h5.2 j o h2 ho hx
        · obtain ⟨o', ho', hoo'⟩ := hrk i j' h5
          have := hs.inj j j' o o' b h2 ho' ho hoo' hx h6
          subst this
          exact h3 (List.mem_of_getElem? h5)
  have hup : Where.upto s.used L L' := fun j hj => by
    have : j ≠ k := fun e => hk (e ▸ hj)
    simp [L', this]
  have hs2 : Sim C (s.ups U0) a w' L' := by
    refine hs.next2 (ups_t (noPut_gUpd _ _ _ _)) (ups_nt _ _) hU hup C1.may hs1.os hs1.tape hs1.output hs1.size (fun b hlt hx => hs1.kept b hlt hx) (fun b hx => ⟨(hmay b hx).2, (hmay b hx).1.2⟩) hok2 ?_ ?_ ?_
    · intro j o hj
      rcases cls j o hj with ⟨i, o1, h2, h3, h4⟩ | ⟨h2, h3, h4⟩
      · exact .inr ⟨(hrt i j h2).1, (hs1.ob i o1 h3).2.ren h2 h4 hrt hok3⟩
      · refine .inl ⟨h2, by simp [L', h4, lk_frC_none r 0 j h3], fun ho b hb ⟨i, j', h5, h6⟩ => ?_⟩
        obtain ⟨o', ho', hoo'⟩ := hrk i j' h5
        have := hs.inj j j' o o' b h2 ho' ho hoo' hb h6
        subst this
        exact h3 (List.mem_of_getElem? h5)
    · intro j j' o o' b hj hj' ho ho' hx hx'
      have mix : ∀ i o1 j o b, q.ob i = some o1 → o1.owns = true → L2.has i b → s.ob j = some o → o.owns = true → j ∉ r → L.has j b → False := by
        intro i o1 j o b h2 h3 h4 h5 h6 h7 h8
        have hlt := (hs.own j o b h5 h6 h8).1
        rcases (hnew i o1 b h2 h3 h4).2 with h9 | ⟨i', j', h9, h10⟩
        · omega
        · obtain ⟨o', ho', hoo'⟩ := hrk i' j' h9
          have := hs.inj j j' o o' b h5 ho' h6 hoo' h8 h10
          subst this
          exact h7 (List.mem_of_getElem? h9)
      rcases cls j o hj with ⟨i, o1, h2, h3, h4⟩ | ⟨h2, h3, h4⟩ <;> rcases cls j' o' hj' with ⟨i', o1', h2', h3', h4'⟩ | ⟨h2', h3', h4'⟩
      · rw [hhas i j b h2] at hx
        rw [hhas i' j' b h2'] at hx'
        have := hs1.inj i i' o1 o1' b h3 h3' (by rw [← rnO_owns h4]; exact ho) (by rw [← rnO_owns h4']; exact ho') hx hx'
        subst this
        rw [h2] at h2'
        exact Option.some.inj h2'
      · rw [hhas i j b h2] at hx
        rw [hhasO j' b h4' h3'] at hx'
        exact (mix i o1 j' o' b h3 (by rw [← rnO_owns h4]; exact ho) hx h2' ho' h3' hx').elim
      · rw [hhas i' j' b h2'] at hx'
        rw [hhasO j b h4 h3] at hx
        exact (mix i' o1' j o b h3' (by rw [← rnO_owns h4']; exact ho') hx' h2 ho h3 hx).elim
      · rw [hhasO j b h4 h3] at hx
        rw [hhasO j' b h4' h3'] at hx'
        exact hs.inj j j' o o' b h2 h2' ho ho' hx hx'
    · intro j o b hj ho hx
      rcases cls j o hj with ⟨i, o1, h2, h3, h4⟩ | ⟨h2, h3, h4⟩
      · rw [hhas i j b h2] at hx
        obtain ⟨h5, h6⟩ := hnew i o1 b h3 (by rw [← rnO_owns h4]; exact ho) hx
        refine ⟨h5, ?_⟩
        rcases h6 with h6 | h6
        · exact .inl (Nat.le_trans hs.size h6)
        · exact (hmay b h6).1.2
      · rw [hhasO j b h4 h3] at hx
        obtain ⟨h5, h6⟩ := hs.own j o b h2 ho hx
        exact ⟨Nat.lt_of_lt_of_le h5 hs1.size, h6⟩
  refine ⟨bb, v, L', hSb, he, hs2, ?_⟩
  have := hs1.tm 0
  exact this.ren hrt hok3
/-- An operation whose end is told up to a choice. -/
def OpE (C : Ctx) (o : Oper) (s : St) (K : St → Prop) : Prop :=
  ∀ a w, (∃ L, Sim C s a w L) → ∀ next Q, (∀ s' a' w', K s' → (∃ L, Sim C s' a' w' L) → next a' w') → OW C.P o a w next Q
theorem OpOk.e {o : Oper} {s' : St} {K : St → Prop} (h : OpOk C o s s') (hk : K s') : OpE C o s K := fun a w hs next Q hn => h a w hs next Q fun a' w' hs' => hn _ _ _ hk hs'
/-- A call whose end is told up to a choice. -/
theorem OpE.gcall {β : Type} {Sy : β → Prop} {o : Oper} (k : Nat) {K : St → Prop} (r : List Nat) {np : Nat} {y : Operand} {ys : Array Operand} {ts : Array TypeId} {f nx1 : Nat} {caps : List (Nat × Nat)} {args : List TV} {h0 : List (Nat × Obj)} {n0 : Nat} {rv : β → TV} {h1 : β → List (Nat × Obj)} (ho : o.op = .call { callee := .value y, args := ys, argTypes := ts }) (hy : fnOf (s.ev y) = some (f, caps))
    (hc : GCallE C.P f np (St.g args h0 n0) Sy fun b => St.r (rv b) (h1 b) nx1) (ha : gArgs (frC 0 r) s ys.toList ++ capArgs (frC 0 r) caps = args) (hh : fitH (frC 0 r) s (frC 0 r) = h0) (hn0 : r.length = n0)
    (hn : nodupB r = true) (ho1 : ownAll s r = true) (hnp : Nat.ble np r.length = true) (ho2 : ∀ b, Sy b → ownUp (St.r (rv b) (h1 b) nx1) np = true) (hnx : Nat.ble nx1 (np + 1) = true) (hd : dstOk o.dst s.nt = true) (hk : ¬ s.used k)
    (h : ∀ b, Sy b → K ((s.ups (gUpd r np k (St.r (rv b) (h1 b) nx1))).put o.dst (rnT (toC r np k ((St.r (rv b) (h1 b) nx1).ob np)) (rv b)))) : OpE C o s K := by
  intro a w ⟨L, hs⟩ next Q hnext
  obtain ⟨cvs, h2, h3⟩ := fnOf_caps hs hy
  subst hn0
  have hc' : GCallE C.P f np (St.g (gArgs (frC 0 r) s ys.toList ++ capArgs (frC 0 r) caps) (fitH (frC 0 r) s (frC 0 r)) r.length) Sy fun b => St.r (rv b) (h1 b) nx1 := by rw [ha, hh]; exact hc
  have hcall := hs.gcallE (k := k) (fvs := []) (fz := []) Al.nil hc' h3 (nodupB_spec hn) ho1 (Nat.le_of_ble_eq_true hnp) ho2 (Nat.le_of_ble_eq_true hnx) hk
  refine OW.enter (run_call2 ho h2 hc.1) ?_
  have e5 : (ys.map a.eval ++ cvs.toArray : Array Value) = (ys.toList.map a.eval ++ cvs).toArray := by
    apply Array.toList_inj.1
    simp
  rw [e5]
  refine hcall.mono fun e w' ⟨b, v, L', hb, he, hs', hrep⟩ => ?_
  subst he
  exact ⟨v, rfl, hnext _ _ _ (h b hb) ⟨L', hs'.put o.dst (by rw [ups_nt]; exact dstOk_spec hd) hrep⟩⟩
/-- A call of a function value that has captured frozen things and variables of the caller's own. -/
theorem OpE.gcallQ {β : Type} {Sy : β → Prop} {o : Oper} (k : Nat) {K : St → Prop} (r : List Nat) {np : Nat} {y : Operand} {ys : Array Operand} {ts : Array TypeId} {f nx1 : Nat} {fz : List AV} {caps : List (Nat × Nat)} {args : List TV} {h0 : List (Nat × Obj)} {n0 : Nat} {rv : β → TV} {h1 : β → List (Nat × Obj)} (ho : o.op = .call { callee := .value y, args := ys, argTypes := ts }) (hy : s.ev y = .c (.clq f fz caps))
    (hc : GCallE C.P f np (St.g args h0 n0) Sy fun b => St.r (rv b) (h1 b) nx1) (ha : gArgs (frC 0 r) s ys.toList ++ (fz.map (fun x => .c (.im x)) ++ capArgs (frC 0 r) caps) = args) (hh : fitH (frC 0 r) s (frC 0 r) = h0) (hn0 : r.length = n0)
    (hn : nodupB r = true) (ho1 : ownAll s r = true) (hnp : Nat.ble np r.length = true) (ho2 : ∀ b, Sy b → ownUp (St.r (rv b) (h1 b) nx1) np = true) (hnx : Nat.ble nx1 (np + 1) = true) (hd : dstOk o.dst s.nt = true) (hk : ¬ s.used k)
    (h : ∀ b, Sy b → K ((s.ups (gUpd r np k (St.r (rv b) (h1 b) nx1))).put o.dst (rnT (toC r np k ((St.r (rv b) (h1 b) nx1).ob np)) (rv b)))) : OpE C o s K := by
  intro a w ⟨L, hs⟩ next Q hnext
  have hv := hs.ev y
  rw [hy] at hv
  obtain ⟨fvs, cvs, h2, hfz, h3⟩ := hv
  subst hn0
  have hc' : GCallE C.P f np (St.g (gArgs (frC 0 r) s ys.toList ++ (fz.map (fun x => .c (.im x)) ++ capArgs (frC 0 r) caps)) (fitH (frC 0 r) s (frC 0 r)) r.length) Sy fun b => St.r (rv b) (h1 b) nx1 := by rw [ha, hh]; exact hc
  have hcall := hs.gcallE (k := k) hfz hc' h3 (nodupB_spec hn) ho1 (Nat.le_of_ble_eq_true hnp) ho2 (Nat.le_of_ble_eq_true hnx) hk
  refine OW.enter (run_call2 ho h2 hc.1) ?_
  have e5 : (ys.map a.eval ++ (fvs ++ cvs).toArray : Array Value) = (ys.toList.map a.eval ++ (fvs ++ cvs)).toArray := by
    apply Array.toList_inj.1
    simp
  rw [e5]
  refine hcall.mono fun e w' ⟨b, v, L', hb, he, hs', hrep⟩ => ?_
  subst he
  exact ⟨v, rfl, hnext _ _ _ (h b hb) ⟨L', hs'.put o.dst (by rw [ups_nt]; exact dstOk_spec hd) hrep⟩⟩
/-- A region of such operations, none of them guarded. -/
def RunE (C : Ctx) : List Oper → St → (St → Prop) → Prop
  | [], s, K => K s
  | o :: l, s, K => o.guard = none ∧ OpE C o s fun s' => RunE C l s' K
theorem RunE.sound {F : Fence} {n : Nat} (hF : WideF F) (ds : List Deferred) {ops : Array Oper} {Q : Exit → Act → World → Prop} : ∀ {l : List Oper} {s : St} {K : St → Prop}, RunE C l s K → ∀ a w, (∃ L, Sim C s a w L) → (∀ s' a' w', K s' → (∃ L, Sim C s' a' w' L) → Q .normal { a' with defers := ds } w') → wpListIn F n C.P ops Q l { a with defers := ds } w
  | [], s, K, h, a, w, hs, hq => hq s a w h hs
  | o :: l, s, K, ⟨hg, ho⟩, a, w, hs, hq => by
    have hw := ho a w hs (fun a' w' => wpListIn F n C.P ops Q l { a' with defers := ds } w') Q (fun s' a' w' h hs' => RunE.sound hF ds h a' w' hs' hq)
    unfold wpListIn
    rw [if_pos (by simp [Region.wanted, hg])]
    exact hw F n hF ds _ fun _ _ h => h
theorem W.regE {Q : Exit → St → Prop} {id : Nat} {ops : Array Oper} (h : RunE C ops.toList s fun s' => ∃ s2, Fits C s' s2 ∧ Q .normal s2) : W C (.region id ops false) s Q := by
  intro a w hs
  have ha0 : ∀ (s' : St) a' w', (∃ L, Sim C s' a' w' L) → ({ a' with defers := [] } : Act) = a' := fun s' a' w' ⟨_, h⟩ => by have := h.defers; cases a'; simp only at this; rw [this]
  rw [← ha0 s a w hs]
  refine wpIn_wide.1 (wpIn_region_list (n := 0) (RunE.sound (.inl rfl) [] h a w hs fun s' a' w' ⟨s2, hf, hq⟩ hs' => ?_))
  rw [ha0 s' a' w' hs']
  exact ⟨s2, hf _ _ hs', hq⟩
/-- A variable that nobody writes any more goes into a function value: what the function has captured is a tree. -/
theorem AX.makeFn {o : Oper} {k k0 f : Nat} {K : List Key → List Upd → Prop} {y : Operand} {t : TypeId} {cs : List Cell} {xs : List AV} (ho : o.op = .makeFunc (.func f) #[] #[y]) (hy : s.ev y = .c (.ptr k0 0)) (hb : s.ob k0 = some (.box t cs)) (hc : unimL cs = some xs) (hd : dstOk o.dst s.nt = true)
    (h : K (opK y ++ [.h k0]) (.del k0 :: dU o.dst (.c (.im (.fn f [.pt xs]))))) : AX C k o s K := by
  refine ⟨_, _, fun s1 hag hnt hk => ?_, fun u hu j hj => ?_, h⟩
  · rw [St.ups, ups_dU]
    show OpOk C o s1 ((s1.delO k0).put o.dst _)
    intro a w ⟨L, hs⟩ next Q hnext
    have e1 : s1.ev y = s.ev y := agree_ev hag (by intro x hx; simp [hx])
    have e3 : s1.ob k0 = some (.box t cs) := by rw [agree_ob hag (by simp)]; exact hb
    have hv := hs.ev y
    rw [e1, hy] at hv
    obtain ⟨hku, b, vs, hbl, hh, hal, hone⟩ := hs.ob k0 _ e3
    obtain ⟨_, b', hbl', hv⟩ := hv
    obtain rfl : b = b' := Option.some.inj (hbl.symm.trans hbl')
    have hcs := unimL_spec hc
    subst hcs
    have hok : ∀ c, okOf C s1 L c → okOf C (s1.delO k0) L c := fun c hc => ⟨hc.1, fun j o1 hj ho1 => by
      rw [St.ob_delO] at hj
      split at hj
      · cases hj
      · exact hc.2 j o1 hj ho1⟩
    have hokb : okOf C (s1.delO k0) L b := by
      have hhas : L.has k0 b := .inl hbl
      refine ⟨fun hlt => (hs.own k0 _ b e3 rfl hhas).2.elim (fun h => absurd hlt (Nat.not_lt.2 h)) .inr, fun j o1 hj ho1 he => ?_⟩
      rw [St.ob_delO] at hj
      split at hj
      · cases hj
      · rename_i e1
        exact e1 (hs.inj _ _ _ o1 b e3 hj rfl ho1 hhas he)
    refine OW.value (v := .func (.func f) #[] #[a.eval y]) (w' := w) (by unfold execOp; simp [ho, Instr.makeFunc]) (hnext _ _ ⟨L, (hs.del k0).put o.dst (by rw [show (s1.delO k0).nt = s1.nt from rfl, hnt]; exact dstOk_spec hd) ?_⟩)
    show RepA C.P (okOf C (s1.delO k0) L) w _ _
    refine RepA.fn (cs := [.pt xs]) (fun _ => a.eval y) fun i z hz => ?_
    cases i with
    | succ i => simp at hz
    | zero =>
      simp at hz
      subst hz
      rw [hv]
      refine .pt (fun i => vs.getD i undef) (fun i hi => ?_) (fun _ => hokb) (fun i y hy => ?_)
      · rw [add_lit, cell_of_block hh, Nat.zero_add]
        have : i < vs.length := by rw [hal.1]; simpa [imL] using hi
        simp [List.getD_eq_getElem?_getD, List.getElem?_eq_getElem this]
      · obtain ⟨v, hv, hr⟩ := hal.get_right (b := .im y) (i := i) (by simp [imL, hy])
        simp only [List.getD_eq_getElem?_getD, hv, Option.getD_some]
        exact RepA.mono hr fun b hb _ => hok b hb
  · rcases List.mem_cons.1 hu with rfl | hu
    · exact absurd hj id
    · exact (given_dU u hu j hj).elim
/-- A call of a function value with what it has captured. -/
theorem AX.pcallC {o : Oper} {k : Nat} {K : List Key → List Upd → Prop} {y : Operand} {ys : Array Operand} {ts : Array TypeId} {f : Nat} {cs : List AV} {args : List TV} {r : TV} (ho : o.op = .call { callee := .value y, args := ys, argTypes := ts }) (hy : s.ev y = .c (.im (.fn f cs))) (ha : s.imArgs ys.toList = some args) (hc : PCall C.P f (args ++ cs.map fun c => .c (.im c)) r) (hr : flatT r = true) (hd : dstOk o.dst s.nt = true)
    (h : K (opK y ++ argsK s ys.toList) (dU o.dst r)) : AX C k o s K := by
  refine ⟨_, _, fun s1 hag hn hk => ?_, fun u hu j hj => (given_dU u hu j hj).elim, h⟩
  rw [ups_dU]
  intro a w ⟨L, hs⟩ next Q hnext
  have e1 : s1.ev y = s.ev y := agree_ev hag (by intro x hx; simp [hx])
  have e2 : s1.imArgs ys.toList = some args := by rw [agree_imArgs hag (by intro x hx; simp [hx])]; exact ha
  have hv := hs.ev y
  rw [e1, hy] at hv
  have hv : RepA C.P (okOf C s1 L) w (a.eval y) (.fn f cs) := hv
  obtain ⟨us, hgeq, hus⟩ : ∃ us : Nat → Value, a.eval y = .func (.func f) #[] ((List.range cs.length).map us).toArray ∧ ∀ (i : Nat) (y : AV), cs[i]? = some y → RepA C.P (okOf C s1 L) w (us i) y := by
    generalize a.eval y = gv at hv
    cases hv with
    | fn us hr => exact ⟨us, rfl, hr⟩
  refine OW.enter (run_call ho hgeq hc.1) ?_
  have hargs := hs.imArgs e2
  have hcaps : Al (RepT C.P (okAll C) w U0 L0) ((List.range cs.length).map us) (cs.map fun c => .c (.im c)) := by
    refine ⟨by simp, fun i v z hv hz => ?_⟩
    simp only [List.getElem?_map, Option.map_eq_some_iff] at hv hz
    obtain ⟨j, hj, rfl⟩ := hv
    obtain ⟨c, hc, rfl⟩ := hz
    have hi : i < cs.length := (List.getElem?_eq_some_iff.1 hc).1
    rw [List.getElem?_range hi] at hj
    cases hj
    exact RepA.mono (hus i c hc) fun _ hb _ => okOf_all hb
  have := hc.2 (okAll C) w (ys.toList.map a.eval ++ (List.range cs.length).map us) (hargs.append hcaps)
  have e3 : (ys.map a.eval ++ ((List.range cs.length).map us).toArray : Array Value) = (ys.toList.map a.eval ++ (List.range cs.length).map us).toArray := by
    apply Array.toList_inj.1
    simp
  rw [e3]
  refine this.mono fun e w' ⟨v, he, hb, hrep⟩ => ?_
  subst he
  have hs' := hs.below hb
  exact ⟨v, rfl, hnext _ _ ⟨L, hs'.put o.dst (by rw [hn]; exact dstOk_spec hd) (flatT_spec hr hrep)⟩⟩
theorem GCallE.det {β : Type} {P : Program} {f np : Nat} {s0 : St} {b0 : β} {s1 : β → St} (h : GCallE P f np s0 (fun b => b = b0) s1) : GCall P f np s0 (s1 b0) :=
  ⟨h.1, fun C h1 h2 vs w L hs => (h.2 C h1 h2 vs w L hs).mono fun e w' ⟨b, v, L', hb, he, hs'⟩ => ⟨v, L', he, hb ▸ hs'⟩⟩
end
end Go.Exe
/-
  Ye: a slice of a whole array that nobody writes any more.
-/
namespace Go.Exe
open Go.RowKit
section
variable {C : Ctx} {s : St}
theorem AX.arrSl {o : Oper} {k k0 n : Nat} {e : TypeId} {bs : Nat} {K : List Key → List Upd → Prop} {y : Operand} {t tb : TypeId} {cs : List Cell} {xs : List AV} (ho : o.op = .slice t y none none none) (ht : C.P.underlying t = some (.array n e)) (hi : EInfo C.P e = some (1, bs)) (hy : s.ev y = .c (.ptr k0 0)) (hb : s.ob k0 = some (.box tb cs)) (hc : unimL cs = some xs) (hn : xs.length = n) (hmx : n ≤ maxLen) (hbt : n * bs ≤ 140737488355328) (hd : dstOk o.dst s.nt = true)
    (h : K (opK y ++ [.h k0]) (.del k0 :: dU o.dst (.c (.im (.sl e (xs.map fun x => [x])))))) : AX C k o s K := by
  refine ⟨_, _, fun s1 hag hnt hk => ?_, fun u hu j hj => ?_, h⟩
  · rw [St.ups, ups_dU]
    show OpOk C o s1 ((s1.delO k0).put o.dst _)
    intro a w ⟨L, hs⟩ next Q hnext
    have e1 : s1.ev y = s.ev y := agree_ev hag (by intro x hx; simp [hx])
    have e3 : s1.ob k0 = some (.box tb cs) := by rw [agree_ob hag (by simp)]; exact hb
    have hv := hs.ev y
    rw [e1, hy] at hv
    obtain ⟨hku, b, vs, hbl, hh, hal, hone⟩ := hs.ob k0 _ e3
    obtain ⟨_, b', hbl', hv⟩ := hv
    obtain rfl : b = b' := Option.some.inj (hbl.symm.trans hbl')
    have hcs := unimL_spec hc
    subst hcs
    have hok : ∀ c, okOf C s1 L c → okOf C (s1.delO k0) L c := fun c hc => ⟨hc.1, fun j o1 hj ho1 => by
      rw [St.ob_delO] at hj
      split at hj
      · cases hj
      · exact hc.2 j o1 hj ho1⟩
    have hokb : okOf C (s1.delO k0) L b := by
      have hhas : L.has k0 b := .inl hbl
      refine ⟨fun hlt => (hs.own k0 _ b e3 rfl hhas).2.elim (fun h => absurd hlt (Nat.not_lt.2 h)) .inr, fun j o1 hj ho1 he => ?_⟩
      rw [St.ob_delO] at hj
      split at hj
      · cases hj
      · rename_i e1
        exact e1 (hs.inj _ _ _ o1 b e3 hj rfl ho1 hhas he)
    obtain ⟨ie, hie, hsz, _⟩ := EInfo_spec hi
    refine OW.value (v := .slice (some ⟨b, 0, none⟩) n n) (w' := w) (by
      unfold execOp
      simp [ho, hv, Instr.sliceAt, Sem.run_bind, run_underlying ht, Instr.sliceBounds, sizeOf, typeInfo, hie, hsz, Instr.sureAddr, Addr.add]) (hnext _ _ ⟨L, (hs.del k0).put o.dst (by rw [show (s1.delO k0).nt = s1.nt from rfl, hnt]; exact dstOk_spec hd) ?_⟩)
    show RepA C.P (okOf C (s1.delO k0) L) w _ _
    refine RepA.sl (fun j _ => vs.getD j undef) hi Nat.zero_lt_one (by simpa using hn) (Nat.le_refl _) hmx hbt (fun j x hx => ?_) (fun j i hj hi => ?_) (fun _ => hokb) fun j i x z hx hz => ?_
    · simp only [List.getElem?_map, Option.map_eq_some_iff] at hx
      obtain ⟨x, _, rfl⟩ := hx
      rfl
    · obtain rfl : i = 0 := by omega
      rw [add_lit, cell_of_block hh]
      have : j < vs.length := by rw [hal.1]; simp [imL]; omega
      simp [List.getD_eq_getElem?_getD, List.getElem?_eq_getElem this]
    · simp only [List.getElem?_map, Option.map_eq_some_iff] at hx
      obtain ⟨x, hx, rfl⟩ := hx
      cases i with
      | succ i => simp at hz
      | zero =>
        simp at hz
        subst hz
        obtain ⟨v, hv, hr⟩ := hal.get_right (b := .im x) (i := j) (by simp [imL, hx])
        simp only [List.getD_eq_getElem?_getD, hv, Option.getD_some]
        exact RepA.mono hr fun b hb _ => hok b hb
  · rcases List.mem_cons.1 hu with rfl | hu
    · exact absurd hj id
    · exact (given_dU u hu j hj).elim
end
end Go.Exe
/-
  Yf: clear of a part of a row; a part of a row that nobody writes any more, as a tree.
-/
namespace Go.Exe
open Go.RowKit

theorem flatten_take {α : Type} {sz : Nat} : ∀ (uss : List (List α)), (∀ u ∈ uss, u.length = sz) → ∀ n, n ≤ uss.length → uss.flatten.take (n * sz) = (uss.take n).flatten
  | [], _, n, hn => by obtain rfl : n = 0 := by simpa using hn
                       simp
  | u :: r, h, 0, _ => by simp
  | u :: r, h, n + 1, hn => by
    have hu := h u (by simp)
    rw [List.flatten_cons, List.take_succ_cons, List.flatten_cons, Nat.add_mul, Nat.one_mul, Nat.add_comm, ← hu, List.take_length_add_append, hu, flatten_take r (fun x hx => h x (by simp [hx])) n (by simpa using hn)]
theorem flatten_drop {α : Type} {sz : Nat} : ∀ (uss : List (List α)), (∀ u ∈ uss, u.length = sz) → ∀ n, n ≤ uss.length → uss.flatten.drop (n * sz) = (uss.drop n).flatten
  | [], _, n, hn => by obtain rfl : n = 0 := by simpa using hn
                       simp
  | u :: r, h, 0, _ => by simp
  | u :: r, h, n + 1, hn => by
    have hu := h u (by simp)
    rw [List.flatten_cons, List.drop_succ_cons, Nat.add_mul, Nat.one_mul, Nat.add_comm, ← hu, List.drop_length_add_append, hu, flatten_drop r (fun x hx => h x (by simp [hx])) n (by simpa using hn)]
theorem zeroCells_flat (z : Array Value) (n : Nat) (hz : 0 < z.size) : (Builtin.zeroCells z n).toList = (List.replicate n z.toList).flatten := by
  apply List.ext_getElem?
  intro q
  have hl : ∀ u ∈ List.replicate n z.toList, u.length = z.size := fun u hu => by rw [List.eq_of_mem_replicate hu]; simp
  have hq : q = (q / z.size) * z.size + q % z.size := by rw [Nat.mul_comm]; exact (Nat.div_add_mod _ _).symm
  have h2 := flatten_get (List.replicate n z.toList) hl (q / z.size) (q % z.size) (Nat.mod_lt _ hz)
  rw [← hq] at h2
  rw [h2, Builtin.zeroCells]
  simp only [Array.toList_map, Array.toList_range, List.getElem?_map, List.getElem?_replicate]
  by_cases h : q < n * z.size
  · have h3 : q / z.size < n := (Nat.div_lt_iff_lt_mul hz).2 h
    have h4 := Nat.mod_lt q hz
    simp [List.getElem?_range h, h3, h4, getElem!_pos]
  · have h3 : ¬ q / z.size < n := fun h3 => h ((Nat.div_lt_iff_lt_mul hz).1 h3)
    rw [List.getElem?_eq_none (by simpa using h)]
    simp [h3]
def clr (xs : List (List Cell)) (lo n : Nat) (zs : List Value) : List (List Cell) := xs.take lo ++ List.replicate n (zs.map fun v => .im (.flat v)) ++ xs.drop (lo + n)
theorem clr_len {xs : List (List Cell)} {lo n : Nat} (zs : List Value) (h : lo + n ≤ xs.length) : (clr xs lo n zs).length = xs.length := by
  simp only [clr, List.length_append, List.length_take, List.length_replicate, List.length_drop]
  omega
theorem clr_unim (ys : List (List AV)) (lo n : Nat) (zs : List Value) : unim (clr (imR ys) lo n zs) = some (ys.take lo ++ List.replicate n (zs.map .flat) ++ ys.drop (lo + n)) := by
  have : clr (imR ys) lo n zs = imR (ys.take lo ++ List.replicate n (zs.map .flat) ++ ys.drop (lo + n)) := by
    simp [clr, imR, imL, Function.comp_def]
  rw [this, unim_im]
section
variable {C : Ctx} {s : St}
theorem AX.clearV {o : Oper} {k k0 sz lo n : Nat} {e : TypeId} {bs : Nat} {K : List Key → List Upd → Prop} {y : Operand} {t : TypeId} {xs : List (List Cell)} {zs : List Value} (ho : o.op = .call { callee := .builtin .clear, args := #[y], argTypes := #[t] }) (ht : EL C.P t = some e) (hi : EInfo C.P e = some (sz, bs)) (hz : ZV C.P e = some zs) (hzl : zs.length = sz)
    (hy : s.ev y = .c (.vw k0 sz lo n)) (hb : s.ob k0 = some (.row e xs)) (hn : lo + n ≤ xs.length) (hd : dstOk o.dst s.nt = true)
    (h : K (opK y ++ [.h k0]) (.set k0 (.row e (clr xs lo n zs)) :: dU o.dst (.t []))) : AX C k o s K := by
  refine ⟨_, _, fun s1 hag hnt hk => ?_, fun u hu j hj => ?_, h⟩
  · rw [St.ups, ups_dU]
    show OpOk C o s1 ((s1.putO k0 (.row e (clr xs lo n zs))).put o.dst _)
    intro a w ⟨L, hs⟩ next Q hnext
    have e1 : s1.ev y = s.ev y := agree_ev hag (by intro x hx; simp [hx])
    have e3 : s1.ob k0 = some (.row e xs) := by rw [agree_ob hag (by simp)]; exact hb
    have hv := hs.ev y
    rw [e1, hy] at hv
    obtain ⟨hku, ad, c, hv, hnc, hcm, hcn, hbl⟩ := hv
    obtain ⟨ie, z, hie, hiz, hzs, hzone⟩ := ZV_spec hz
    have key : ∃ w', (Builtin.clear_ #[t] o.type #[a.eval y]).run C.P w = .ok (.tuple #[]) w' ∧ Exe.S C (s1.putO k0 (.row e (clr xs lo n zs))) a w' := by
      by_cases h0 : n = 0
      · subst h0
        refine ⟨w, ?_, ?_⟩
        · rw [hv]
          cases ad <;> simp [Builtin.clear_, Sem.run_bind, run_underlying (EL_spec ht)]
        · have : clr xs lo 0 zs = xs := by simp [clr]
          rw [this]
          exact S_eqv ⟨L, hs⟩ ⟨fun _ => rfl, fun i => by
            show s1.ob i = _
            rw [St.ob_putO]
            split
            · rename_i e; subst e; exact e3
            · rfl, fun _ => Iff.rfl, rfl⟩
      · obtain ⟨b, hb1, hb2, _⟩ := hbl (by omega)
        subst hb2
        obtain ⟨hus, uss, sz', bs', hie', hs0, hbb, hown, hblk, hul, hal, hone2⟩ := hs.ob _ _ e3
        obtain ⟨rfl, rfl⟩ : sz = sz' ∧ bs = bs' := by rw [hi] at hie'; simpa using hie'
        have hb3 : (L.hv k0).ownBlock = some b := hblk.trans hb1
        obtain ⟨hl1, hl2⟩ := hown
        rcases hl2 with ⟨he, _⟩ | ⟨g', cap, cur, he, _, hh, hnc2, hcm2, hcs, htk⟩
        · rw [he] at hb3; simp [Value.ownBlock] at hb3
        · have : g' = b := by rw [he] at hb3; simpa [Value.ownBlock] using hb3
          subst this
          have hzc := zeroCells_flat z.cells n (by rw [← Array.length_toList, hzs, hzl]; exact hs0)
          have hzl2 : ∀ u ∈ List.replicate n zs, u.length = sz := fun u hu => by rw [List.eq_of_mem_replicate hu]; exact hzl
          have hdl : (List.replicate n zs).flatten.length = n * sz := by rw [flatten_length _ hzl2]; simp
          rw [hzs] at hzc
          have hle : lo * sz + n * sz ≤ xs.length * sz := by rw [← Nat.add_mul]; exact Nat.mul_le_mul_right _ hn
          have hle2 : xs.length * sz ≤ cap * sz := Nat.mul_le_mul_right _ hnc2
          have hone : ∀ v ∈ (List.replicate n zs).flatten, v.oneCell' = true := fun v hv => by
            obtain ⟨u, hu, hvu⟩ := List.mem_flatten.1 hv
            rw [List.eq_of_mem_replicate hu] at hvu
            exact hzone v hvu
          have hcl2 : cur.toList.length = cur.size := Array.length_toList
          have hrun := run_storeCells_at C.P g' (lo * sz) e (List.replicate n zs).flatten 0 cur w hh (by rw [Nat.add_zero, hdl]; omega) hone
          simp only [Nat.add_zero] at hrun
          have hul2 : ∀ u ∈ uss.take lo ++ List.replicate n zs ++ uss.drop (lo + n), u.length = sz := fun u hu => by
            simp only [List.mem_append] at hu
            rcases hu with (hu | hu) | hu
            · exact hul u (List.mem_of_mem_take hu)
            · exact hzl2 u hu
            · exact hul u (List.mem_of_mem_drop hu)
          have hulen : uss.length = xs.length := hal.1
          have hsp : splice uss.flatten (lo * sz) (List.replicate n zs).flatten = (uss.take lo ++ List.replicate n zs ++ uss.drop (lo + n)).flatten := by
            unfold splice
            rw [hdl, ← Nat.add_mul, flatten_take uss hul lo (by omega), flatten_drop uss hul (lo + n) (by omega)]
            simp
          refine ⟨w.setRow g' (splice cur.toList (lo * sz) (List.replicate n zs).flatten).toArray, ?_, L, hs.write e3 rfl rfl (.inl hb1) rfl rfl ⟨rfl, Nat.le_refl _⟩ (by simp) (fun x hx => setRow_other w g' x _ hx) fun hm => ?_⟩
          · rw [hv]
            simp [Builtin.clear_, Sem.run_bind, run_underlying (EL_spec ht), zeroValue, typeInfo, hie, hiz]
            rw [hzc, hrun]
            rfl
          · refine ⟨uss.take lo ++ List.replicate n zs ++ uss.drop (lo + n), sz, bs, hi, hs0, ?_, ⟨?_, .inr ⟨g', cap, _, ?_, Nat.zero_le _, setRow_heap w g' _ _ e (0, 0) hh, ?_, hcm2, ?_, ?_⟩⟩, hblk, hul2, ?_, ?_⟩
            · have := hbb
              simp only [clr, List.length_append, List.length_take, List.length_replicate, List.length_drop]
              rw [show min lo xs.length + n + (xs.length - (lo + n)) = xs.length by omega]
              exact hbb
            · rw [flatten_length _ hul2]
              simp only [clr, List.length_append, List.length_take, List.length_replicate, List.length_drop, hulen]
            · rw [he]
              simp only [clr, List.length_append, List.length_take, List.length_replicate, List.length_drop]
              rw [show min lo xs.length + n + (xs.length - (lo + n)) = xs.length by omega]
            · simp only [clr, List.length_append, List.length_take, List.length_replicate, List.length_drop]
              omega
            · simp only [List.size_toArray]
              rw [splice_length (by omega), hcl2]; exact hcs
            · show (splice cur.toList (lo * sz) (List.replicate n zs).flatten).take _ = _
              have : (clr xs lo n zs).length = xs.length := by
                simp only [clr, List.length_append, List.length_take, List.length_replicate, List.length_drop]
                omega
              rw [this, splice_take (by omega) (by omega), htk]
              exact hsp
            · refine ((hal.take lo).append ⟨by simp, fun i u x hu hx => ?_⟩ |>.append (hal.drop (lo + n))).imp fun _ _ h => h.imp fun _ _ hc => hc.move hm (fun _ h => h) (Where.upto_refl _ _)
              simp only [List.getElem?_replicate] at hu hx
              split at hu <;> try (cases hu; done)
              rename_i hin
              rw [if_pos hin] at hx
              cases hu; cases hx
              refine ⟨by simp, fun i v c hv hc => ?_⟩
              simp only [List.getElem?_map, hv, Option.map_some, Option.some.injEq] at hc
              subst hc
              exact RepA.flat (hzone v (List.mem_of_getElem? hv))
            · intro v hv
              rw [← hsp] at hv
              rcases mem_splice hv with hv | hv
              · exact hone2 v hv
              · exact hone v hv
    obtain ⟨w', h1, L', h2⟩ := key
    refine OW.value (v := .tuple #[]) (w' := w') (by
      unfold execOp
      simp [ho, resolve, invoke, builtin, Sem.run_bind, h1]) (hnext _ _ ⟨L', h2.put o.dst (by rw [show (s1.putO k0 (.row e (clr xs lo n zs))).nt = s1.nt from rfl, hnt]; exact dstOk_spec hd) ⟨[], rfl, Al.nil⟩⟩)
  · rcases List.mem_cons.1 hu with rfl | hu
    · exact absurd hj id
    · exact (given_dU u hu j hj).elim
/-- A part of a row that nobody writes any more, as a tree; the row itself is given up. -/
theorem Fits.froV {s' : St} (i k : Nat) {e sz bs lo n : Nat} {xs : List (List Cell)} {ys : List (List AV)} (hi : s.tv i = .c (.vw k sz lo n)) (hk : s.ob k = some (.row e xs)) (hc : unim xs = some ys) (he : EInfo C.P e = some (sz, bs)) (hn : lo + n ≤ xs.length) (h : Fits C { s with t := ins i (.c (.im (.sl e ((ys.drop lo).take n)))) s.t, h := del k s.h } s') : Fits C s s' := by
  intro a w ⟨L, hs⟩
  have hd := hs.del k
  have hcs := unim_spec hc
  subst hcs
  have hok : ∀ c, okOf C s L c → okOf C (s.delO k) L c := fun c hc => ⟨hc.1, fun j o1 hj ho1 => by
    rw [St.ob_delO] at hj
    split at hj
    · cases hj
    · exact hc.2 j o1 hj ho1⟩
  refine h a w ⟨L, hd.os, hd.tape, hd.output, hd.size, hd.kept, hd.nt, fun j => ?_, hd.ob, hd.inj, hd.own, hd.defers, hd.pin⟩
  show RepT C.P (okOf C (s.delO k) L) w s.used L _ ((lk (ins i (.c (.im (.sl e ((ys.drop lo).take n)))) s.t) j).getD (.c .dead))
  rw [lk_ins]
  by_cases e1 : i = j
  · subst e1
    rw [if_pos (Eq.refl _)]
    have hv := hs.tm i
    rw [hi] at hv
    obtain ⟨hku, ad, c, hv, hnc, hcm, hcn, hbl⟩ := hv
    have hxl : ((ys.drop lo).take n).length = n := by
      have : (imR ys).length = ys.length := by simp [imR]
      rw [List.length_take, List.length_drop]; omega
    show RepA C.P (okOf C (s.delO k) L) w _ _
    rw [hv]
    by_cases h0 : n = 0
    · subst h0
      cases ad with
      | none =>
        obtain rfl := hcn (Eq.refl _)
        exact .nil
      | some g =>
        have hs0 : 0 < sz := by
          obtain ⟨hus, uss, sz', bs', hie', hs0, _⟩ := hs.ob _ _ hk
          obtain ⟨rfl, rfl⟩ : sz = sz' ∧ bs = bs' := by rw [he] at hie'; simpa using hie'
          exact hs0
        have := RepA.mkSl (P := C.P) (ok := okOf C (s.delO k) L) (w := w) (ad := g) (c := c) (e := e) (xs := []) (uss := []) he hs0 (by simp) hcm (by simp) (by simp) (by simp) (by simp) Al.nil
        simpa using this
    · obtain ⟨b, hb1, hb2, _⟩ := hbl (by omega)
      subst hb2
      obtain ⟨hus, uss, sz', bs', hie', hs0, hbb, hown, hblk, hul, hal, hone2⟩ := hs.ob _ _ hk
      obtain ⟨rfl, rfl⟩ : sz = sz' ∧ bs = bs' := by rw [he] at hie'; simpa using hie'
      have hokb : okOf C (s.delO k) L b := by
        have hhas : L.has k b := .inl hb1
        refine ⟨fun hlt => (hs.own k _ b hk (Eq.refl _) hhas).2.elim (fun h => absurd hlt (Nat.not_lt.2 h)) .inr, fun j o1 hj ho1 he => ?_⟩
        rw [St.ob_delO] at hj
        split at hj
        · cases hj
        · rename_i e1
          exact e1 (hs.inj _ _ _ o1 b hk hj (Eq.refl _) ho1 hhas he)
      have hyl : (imR ys).length = ys.length := by simp [imR]
      have hul2 : ∀ u ∈ (uss.drop lo).take n, u.length = sz := fun u hu => hul u (List.mem_of_mem_drop (List.mem_of_mem_take hu))
      have hulen : uss.length = ys.length := by rw [hal.1, hyl]
      have := RepA.mkSl (P := C.P) (ok := okOf C (s.delO k) L) (w := w) (ad := ⟨b, lo * sz, none⟩) (c := c) (e := e) (xs := (ys.drop lo).take n) (uss := (uss.drop lo).take n) he hs0 (by rw [hxl]; exact hnc) hcm (by
          rw [hxl]
          exact Nat.le_trans (Nat.mul_le_mul_right _ (by omega)) hbb) hul2 (fun q u hq => ?_) (fun _ => hokb) ?_
      · rw [hxl] at this; exact this
      · rw [← flatten_take _ (fun u hu => hul u (List.mem_of_mem_drop hu)) n (by rw [List.length_drop]; omega), ← flatten_drop _ hul lo (by omega), List.getElem?_take] at hq
        split at hq <;> try (cases hq; done)
        rw [List.getElem?_drop] at hq
        rw [add_lit]
        exact row_cells hown (hblk.trans hb1) _ u hq
      · have h2 : Al (Al (RepC C.P (okOf C s L) w s.used L)) ((uss.drop lo).take n) (((imR ys).drop lo).take n) := (hal.drop lo).take n
        refine ⟨by rw [hxl, List.length_take, List.length_drop]; omega, fun j u y hu hy => ?_⟩
        obtain ⟨y', hy', huy⟩ := h2.get_left hu
        have e2 : y' = y.map .im := by
          simp only [imR, ← List.map_drop, ← List.map_take, List.getElem?_map, hy, Option.map_some, Option.some.injEq] at hy'
          rw [← hy']; rfl
        subst e2
        refine ⟨by rw [huy.1]; simp, fun i v c hv hc => ?_⟩
        have := huy.2 i v (.im c) hv (by simp [hc])
        exact RepA.mono this fun b hb _ => hok b hb
  · rw [if_neg e1]; exact hd.tm j
/-- The bounds of a row's length and bytes. -/
theorem W.lenR {Q : Exit → St → Prop} {c : Code} (k : Nat) {e sz bs : Nat} {xs : List (List Cell)} (hk : s.ob k = some (.row e xs)) (he : EInfo C.P e = some (sz, bs)) (h : xs.length ≤ maxLen → xs.length * bs ≤ 140737488355328 → W C c s Q) : W C c s Q := fun a w ⟨L, hs⟩ => by
  obtain ⟨hus, uss, sz', bs', hie', hs0, hbb, hown, _⟩ := hs.ob _ _ hk
  obtain ⟨rfl, rfl⟩ : sz = sz' ∧ bs = bs' := by rw [he] at hie'; simpa using hie'
  obtain ⟨ad, c, _, h1, h2⟩ := ownsRow_slice hown
  exact h (Nat.le_trans h1 h2) hbb a w ⟨L, hs⟩
theorem AX.neKey {k : Nat} {o : Oper} {K : List Key → List Upd → Prop} {t t' : TypeId} {y z : Operand} {a b : Array Value} {r : Bool} (ho : o.op = .binOp .neq t y z t') (hy : keyV (s.ev y) = some (.agg a)) (hz : keyV (s.ev z) = some (.agg b))
    (hg : C.P.eqGuardType C.P.depth t = false) (heq : ∀ w, (Op.equal t (.agg a) (.agg b)).run C.P w = .ok r w) (hd : dstOk o.dst s.nt = true) (h : K (opK y ++ opK z) (dU o.dst (ft (.bool (!r))))) : AX C k o s K := by
  refine ⟨_, _, fun s1 hag hnt hk => ?_, fun u hu j hj => (given_dU u hu j hj).elim, h⟩
  rw [ups_dU]
  have e1 : s1.ev y = s.ev y := agree_ev hag (by intro x hx; simp [hx])
  have e2 : s1.ev z = s.ev z := agree_ev hag (by intro x hx; simp [hx])
  refine opOk_flat rfl (by rw [hnt]; exact dstOk_spec hd) fun ac w L hs => ?_
  have hv := hs.ev y
  rw [e1] at hv
  have hv2 := hs.ev z
  rw [e2] at hv2
  have h1 := keyV_spec hv hy
  have h2 := keyV_spec hv2 hz
  unfold execOp
  simp [ho, h1, h2, eqGuard, binOp, heq, Sem.run_bind, hg]
end
end Go.Exe
/-
  Yg: slices.Sort on a row of ints of the run's own.
-/
namespace Go.Exe
open Go.RowKit

def srtI (zs : List Int) : List Int := zs.mergeSort fun x y => decide (x ≤ y)
/-- What is asked of a program's Sort at ints. -/
structure SortI (P : Program) (f : Nat) : Prop where
  ok : CallOk P f
  nil0 : ∀ (p : Option Addr) (cap : Nat) (w : World), Calls P f #[.slice p 0 cap] w fun e w' => e = .returned (.tuple #[]) ∧ w' = w
  full : ∀ (blk cap : Nat) (zs : List Int) (w : World), Sort.Holds (Value.int .i64) w blk 0 zs.toArray → blk < w.heap.size → zs.length < 4611686018427387904 →
    Calls P f #[.slice (some ⟨blk, 0, none⟩) zs.length cap] w fun e w' => e = .returned (.tuple #[]) ∧ ∃ n os, w' = Sort.grow (Sort.putRow (Value.int .i64) (Sort.ahead w n) blk 0 (zs.mergeSort fun x y => decide (x ≤ y)).toArray) os
theorem putRow_heap (w : World) (g : Nat) (d : Array Int) {cur : Array Value} {e : TypeId} {fr : Nat × Nat} (hg : w.heap[g]? = some (.cells cur e fr)) :
    (Sort.putRow (Value.int .i64) w g 0 d).heap[g]? = some (.cells (Sort.putCells (Value.int .i64) 0 d cur) e fr) := by
  simp [Sort.putRow, Sort.mapBlock, Array.getElem?_modify, hg, Sort.onCells]
theorem putRow_other (w : World) (g : Nat) (d : Array Int) {b : Nat} (hb : b ≠ g) : (Sort.putRow (Value.int .i64) w g 0 d).heap[b]? = w.heap[b]? := by
  simp only [Sort.putRow, Sort.mapBlock, Array.getElem?_modify]
  rw [if_neg (fun e => hb e.symm)]
theorem flatten_one' {α : Type} (l : List α) : (l.map fun v => [v]).flatten = l := by induction l <;> simp_all
section
variable {C : Ctx} {s : St} {a : Act} {w : World} {L : Where}
theorem Sim.sortI (h : Sim C s a w L) {r e bs f n cap : Nat} {zs : List Int} {gb : Nat}
    (hr : s.ob r = some (.row e (imR (zs.map fun n => [.flat (.int .i64 n)])))) (hv : L.hv r = .slice (some ⟨gb, 0, none⟩) n cap) (he : EInfo C.P e = some (1, bs)) (hbs : 0 < bs) (hc : SortI C.P f) :
    Calls C.P f #[.slice (some ⟨gb, 0, none⟩) n cap] w fun e1 w' => e1 = .returned (.tuple #[]) ∧ ∃ L', Sim C (s.putO r (.row e (imR ((srtI zs).map fun n => [.flat (.int .i64 n)])))) a w' L' := by
  obtain ⟨hur, uss, sz, bs', hi, hs0, hb, ho, hblk, hul, hal, hone⟩ := h.ob r _ hr
  rw [he] at hi
  cases hi
  have hlR : ∀ l : List Int, (imR (l.map fun n => [AV.flat (.int .i64 n)])).length = l.length := fun l => by simp [imR]
  rw [hv] at ho hblk
  rw [hlR] at ho hb
  rcases ho.2 with ⟨h1, _⟩ | ⟨g', cap', cur, h1, _, hgb, hnc, hcm, hcs, htake⟩
  · cases h1
  cases h1
  have hgblk : L.blk r = some gb := hblk.symm
  have hflat : uss.flatten = zs.map (Value.int .i64) := by
    apply List.ext_getElem?
    intro i
    have h2 := flatten_get uss hul i 0 (by omega)
    rw [Nat.mul_one, Nat.add_zero] at h2
    rw [h2, List.getElem?_map]
    cases hz : zs[i]? with
    | none =>
      have : zs.length ≤ i := List.getElem?_eq_none_iff.1 hz
      have : uss[i]? = none := List.getElem?_eq_none (by rw [hal.1, hlR]; exact this)
      rw [this]; rfl
    | some z =>
      obtain ⟨u, hu, hux⟩ := hal.get_right (b := [.im (.flat (.int .i64 z))]) (i := i) (by simp [imR, imL, hz])
      rw [hu]
      obtain ⟨v, hv1, hv2⟩ := hux.get_right (b := .im (.flat (.int .i64 z))) (i := 0) rfl
      have := RepA.flat_eq hv2
      simp [hv1, this]
  have hH : Sort.Holds (Value.int .i64) w gb 0 zs.toArray := fun j hj => by
    have hj : j < zs.length := by simpa using hj
    rw [Nat.zero_add]
    refine ⟨?_, by simp [World.frozen?, hgb]⟩
    have : cur.toList[j]? = some (Value.int .i64 zs[j]) := by
      have h3 : (cur.toList.take (zs.length * 1))[j]? = some (Value.int .i64 zs[j]) := by rw [htake, hflat]; simp [hj]
      rw [List.getElem?_take, if_pos (by omega)] at h3
      exact h3
    rw [World.cell?]
    simp only [hgb]
    rw [Array.getElem?_toList] at this
    simp [this, getElem!_pos, hj]
  have hsz : gb < w.heap.size := (Array.getElem?_eq_some_iff.1 hgb).1
  have hn62 : zs.length < 4611686018427387904 := by
    have : zs.length ≤ zs.length * bs := Nat.le_mul_of_pos_right _ hbs
    omega
  refine (hc.full gb cap zs w hH hsz hn62).mono fun e1 w' ⟨h1, m, os, hw⟩ => ⟨h1, ?_⟩
  have hsl : (srtI zs).length = zs.length := by simp [srtI]
  obtain ⟨ds, hds⟩ : ∃ ds, ds = srtI zs := ⟨_, rfl⟩
  have hL : Sim C (s.putO r (.row e (imR ((srtI zs).map fun n => [.flat (.int .i64 n)])))) a (Sort.putRow (Value.int .i64) w gb 0 (srtI zs).toArray) L := by
    refine h.write hr rfl rfl (.inl hgblk) rfl rfl ⟨rfl, Nat.le_refl _⟩ (by simp [Sort.putRow, Sort.mapBlock]) (fun b hb => putRow_other _ _ _ hb) fun hm => ?_
    refine ⟨(srtI zs).map fun z => [.int .i64 z], 1, bs, he, hs0, by rw [hlR, hsl]; exact hb, ?_, by rw [hv]; exact hblk, fun u hu => ?_, ?_, fun v hv => ?_⟩
    · rw [hlR, hv, hsl]
      refine ⟨by rw [flatten_length (sz := 1) _ (fun u hu => by obtain ⟨z, _, rfl⟩ := List.mem_map.1 hu; rfl)]; simp [hsl], .inr ⟨gb, cap, _, rfl, Nat.zero_le _, putRow_heap w gb _ hgb, hnc, hcm, by simp [Sort.putCells, hcs], ?_⟩⟩
      rw [← hds] at hsl ⊢
      have hfl : (ds.map fun z => [Value.int .i64 z]).flatten = ds.map (Value.int .i64) := by
        rw [show (fun z => [Value.int IntKind.i64 z]) = (fun v => [v]) ∘ (Value.int IntKind.i64) from rfl, ← List.map_map]
        exact flatten_one' _
      rw [hfl]
      apply List.ext_getElem?
      intro t
      rw [List.getElem?_take]
      by_cases ht : t < zs.length * 1
      · rw [if_pos ht]
        have hct : t < cur.size := by omega
        rw [Array.getElem?_toList]
        simp only [Sort.putCells, Array.getElem?_mapIdx, Array.getElem?_eq_getElem hct, Option.map_some]
        have hdt : t < ds.length := by omega
        rw [if_pos ⟨Nat.zero_le _, by simp; omega⟩, Nat.sub_zero]
        simp [hdt, getElem!_pos]
      · rw [if_neg ht, List.getElem?_eq_none (by simp; omega)]
    · obtain ⟨z, _, rfl⟩ := List.mem_map.1 hu; rfl
    · refine ⟨by simp [imR], fun i u x hu hx => ?_⟩
      simp only [imR, List.map_map, List.getElem?_map, Option.map_eq_some_iff] at hu hx
      obtain ⟨z, hz, rfl⟩ := hu
      obtain ⟨z', hz', rfl⟩ := hx
      rw [hz] at hz'
      cases hz'
      refine ⟨rfl, fun i v c hv hc => ?_⟩
      cases i with
      | zero =>
        simp [imL] at hv hc
        subst hv; subst hc
        exact RepA.flat rfl
      | succ i => simp at hv
    · obtain ⟨u, hu, hvu⟩ := List.mem_flatten.1 hv
      obtain ⟨z, _, rfl⟩ := List.mem_map.1 hu
      simp at hvu; subst hvu; rfl
  refine ⟨L, ?_⟩
  have h2 := hL.draw (w.drawn + m) (Nat.le_add_right _ _)
  rw [hw]
  refine Sim.below (w := Sort.putRow (Value.int .i64) (Sort.ahead w m) gb 0 (srtI zs).toArray) h2 ⟨⟨rfl, rfl, rfl, by simp [Sort.grow], fun b hb => ?_⟩, Nat.le_refl _⟩
  show ((Sort.putRow (Value.int .i64) (Sort.ahead w m) gb 0 (srtI zs).toArray).heap ++ os)[b]? = _
  rw [Array.getElem?_append_left hb]
theorem AX.sortI {o : Oper} {k0 : Nat} {K : List Key → List Upd → Prop} {y a1 : Operand} {ts : Array TypeId} {f r e bs : Nat} {xs : List (List Cell)} {zs : List Int} (ho : o.op = .call { callee := .value y, args := #[a1], argTypes := ts }) (hy : fnOf (s.ev y) = some (f, [])) (h1 : s.ev a1 = .c (.ref r)) (hr : s.ob r = some (.row e xs)) (hx : xs = imR (zs.map fun n => [.flat (.int .i64 n)]))
    (he : EInfo C.P e = some (1, bs)) (hbs : 0 < bs) (hc : SortI C.P f) (hd : dstOk o.dst s.nt = true)
    (h : K (opK y ++ (opK a1 ++ [.h r])) (.set r (.row e (imR ((srtI zs).map fun n => [.flat (.int .i64 n)]))) :: dU o.dst (.t []))) : AX C k0 o s K := by
  subst hx
  refine ⟨_, _, fun s1 hag hn hk => ?_, fun u hu2 j hj => ?_, h⟩
  · show OpOk C o s1 ((s1.putO r (.row e (imR ((srtI zs).map fun n => [.flat (.int .i64 n)])))).ups (dU o.dst (.t [])))
    rw [ups_dU]
    intro a w ⟨L, hs⟩ next Q hnext
    have e0 : s1.ev y = s.ev y := agree_ev hag (by intro x hx; simp [hx])
    have e1 : s1.ev a1 = s.ev a1 := agree_ev hag (by intro x hx; simp [hx])
    have e3 : s1.ob r = some (.row e (imR (zs.map fun n => [.flat (.int .i64 n)]))) := by rw [agree_ob hag (k := r) (by simp)]; exact hr
    have hfn : a.eval y = .func (.func f) #[] #[] := fnOf_eval hs (by rw [e0]; exact hy)
    have hv1 := hs.ev a1
    rw [e1, h1] at hv1
    obtain ⟨hku, hv1, _⟩ := hv1
    have hdst : ∀ i, o.dst = some i → i < (s1.putO r (.row e (imR ((srtI zs).map fun n => [.flat (.int .i64 n)])))).nt := by rw [show (s1.putO r (.row e (imR ((srtI zs).map fun n => [.flat (.int .i64 n)])))).nt = s1.nt from rfl, hn]; exact dstOk_spec hd
    refine OW.enter (run_call ho hfn hc.ok) ?_
    have e5 : (#[a1].map a.eval ++ #[] : Array Value) = #[L.hv r] := by simp [hv1]
    rw [e5]
    obtain ⟨_, uss, sz, bs', hi, hs0, hb, ho', hblk, _⟩ := hs.ob r _ e3
    rcases ho'.2 with ⟨hv, h3⟩ | ⟨gb, cap, cur, hv, _⟩
    · rw [hv]
      refine (hc.nil0 none 0 w).mono fun e w' ⟨h4, h5⟩ => ?_
      subst h4; subst h5
      have h0 : zs = [] := by simpa [imR] using h3
      subst h0
      have hnil : srtI [] = [] := by simp [srtI]
      have hS : S C (s1.putO r (.row e (imR ((srtI []).map fun n => [.flat (.int .i64 n)])))) a w' := S_eqv ⟨L, hs⟩ ⟨fun _ => rfl, fun j => by
        rw [St.ob_putO]; split
        · rename_i e; subst e; rw [e3, hnil]
        · rfl, fun _ => Iff.rfl, rfl⟩
      obtain ⟨L', hs'⟩ := hS
      exact ⟨_, rfl, hnext _ _ ⟨L', hs'.put o.dst hdst ⟨[], rfl, Al.nil⟩⟩⟩
    · have hlR : (imR (zs.map fun n => [AV.flat (.int .i64 n)])).length = zs.length := by simp [imR]
      rw [hlR] at hv
      rw [hv]
      refine (hs.sortI e3 hv he hbs hc).mono fun e w' ⟨h3, L', hs'⟩ => ?_
      subst h3
      exact ⟨_, rfl, hnext _ _ ⟨L', hs'.put o.dst hdst ⟨[], rfl, Al.nil⟩⟩⟩
  · simp only [List.mem_cons] at hu2
    rcases hu2 with rfl | hu2
    · exact hj.elim
    · exact (given_dU u hu2 j hj).elim
end
end Go.Exe
/-
  Yh: slices.Grow of a nil slice.
-/
namespace Go.Exe
open Go.RowKit

/-- What is asked of a program's Grow at a nil slice (elements of type e). -/
structure GrowC (P : Program) (f : Nat) (e : TypeId) (sz bs : Nat) : Prop where
  ok : CallOk P f
  room : ∀ w, Calls P f #[.slice none 0 0, .int .i64 0] w fun ed w' => ed = .returned (.slice none 0 0) ∧ w' = w
  grow : ∀ (n : Nat) (w : World), 0 < n → n * bs ≤ 140737488355328 → n ≤ 4611686018427387904 →
    Calls P f #[.slice none 0 0, .int .i64 n] w fun ed w' => ∃ G cells, ed = .returned (.slice (some ⟨w.heap.size, 0, none⟩) 0 G) ∧ G ≤ maxLen ∧ cells.size = G * sz ∧ w' = w.drew.alloc (.cells cells e)
theorem GrowC.call {P : Program} {f : Nat} {e : TypeId} {sz bs : Nat} (h : GrowC P f e sz bs) (he : EInfo P e = some (sz, bs)) (hs0 : 0 < sz) (n : Nat) (hn : n * bs ≤ 140737488355328) (hn2 : n ≤ 4611686018427387904) :
    GCall P f 0 (St.g [ft (.slice none 0 0), ft (.int .i64 n)] [] 0) (St.r (.c (.ref 0)) [(0, .row e [])] 1) := by
  refine ⟨h.ok, fun C hC hnp vs w L hs => ?_⟩
  subst hC
  have hlen : vs.length = 2 := by have := hs.nt; simpa [St.g] using this
  obtain ⟨v0, v1, rfl⟩ : ∃ v0 v1, vs = [v0, v1] := by
    match vs, hlen with
    | [a, b], _ => exact ⟨a, b, rfl⟩
  have h0 : v0 = .slice none 0 0 := RepA.flat_eq (hs.tm 0)
  have h1 : v1 = .int .i64 n := RepA.flat_eq (hs.tm 1)
  subst h0; subst h1
  let s0 := St.g [ft (.slice none 0 0), ft (.int .i64 n)] [] 0
  have hu0 : ¬ s0.used 0 := by simp [s0, St.used, St.g]
  have fin : ∀ (w' : World) (v : Value) (b : Option Nat), w'.os = w.os → w'.tape = w.tape → (w'.output = w.output ∧ w.drawn ≤ w'.drawn) → w.heap.size ≤ w'.heap.size → (∀ b, b < w.heap.size → w'.heap[b]? = w.heap[b]?) → (∀ x, b = some x → w.heap.size ≤ x ∧ x < w'.heap.size) →
      (∃ a n c, v = .slice a n c) → w'.ownsRow 0 e sz v 0 [] → v.ownBlock = b → ∃ L', Sim C (St.r (.c (.ref 0)) [(0, .row e [])] 1) { tmps := #[v], defers := [] } w' L' := by
    intro w' v b q1 q2 q3 q4 q5 q6 hsl q7 q8
    have hN := hs.new 0 hu0 (.row e []) v q1 q2 q3 q4 q5 b q6 (by
      refine ⟨[], sz, bs, he, hs0, by simp, ?_, ?_, by simp, Al.nil, by simp⟩
      · simpa [Where.set] using q7
      · simpa [Where.set] using q8)
    have hob : ∀ j, (St.r (.c (.ref 0)) [(0, Obj.row e [])] 1).ob j = (s0.new 0 (.row e [])).ob j := fun j => by
      rw [St.ob_new]
      show lk [(0, _)] j = _
      simp only [lk]
      by_cases hj : (0 : Nat) = j
      · subst hj; rfl
      · have : Nat.beq 0 j = false := by cases h : Nat.beq 0 j with | false => rfl | true => exact absurd (beq_t h) hj
        rw [this, if_neg hj]; rfl
    have hus : (St.r (.c (.ref 0)) [(0, Obj.row e [])] 1).used = (s0.new 0 (.row e [])).used := funext fun j => propext (by
      rw [St.used_new]
      simp [s0, St.used, St.r, St.g])
    have hokE : okOf C (St.r (.c (.ref 0)) [(0, Obj.row e [])] 1) (L.set 0 b v) = okOf C (s0.new 0 (.row e [])) (L.set 0 b v) := by
      funext x
      simp only [okOf, hob]
    refine ⟨L.set 0 b v, hN.os, hN.tape, hN.output, hN.size, hN.kept, rfl, fun i => ?_, fun j o hj => ?_, fun j j' o o' x hj hj' => hN.inj j j' o o' x (hob j ▸ hj) (hob j' ▸ hj'), fun j o x hj => hN.own j o x (hob j ▸ hj), rfl, fun k hk => absurd hk (by rw [hnp]; exact Nat.not_lt_zero k)⟩
    · cases i with
      | zero => exact ⟨.inl Nat.zero_lt_one, by simp [Where.set], hsl⟩
      | succ i => exact trivial
    · rw [hob] at hj
      rw [hus, hokE]
      exact hN.ob j o hj
  by_cases hz : n = 0
  · subst hz
    refine (h.room w).mono fun ed w' ⟨e1, e2⟩ => ?_
    subst e1; subst e2
    obtain ⟨L', hL⟩ := fin w' (.slice none 0 0) none rfl rfl ⟨rfl, Nat.le_refl _⟩ (Nat.le_refl _) (fun _ _ => rfl) (fun _ h => by cases h) ⟨_, _, _, rfl⟩ (World.ownsRow_nil w' 0 e sz) rfl
    exact ⟨_, L', rfl, hL⟩
  · refine (h.grow n w (by omega) hn hn2).mono fun ed w' ⟨G, cells, e1, e2, e3, e4⟩ => ?_
    subst e1; subst e4
    obtain ⟨L', hL⟩ := fin (w.drew.alloc (.cells cells e)) (.slice (some ⟨w.heap.size, 0, none⟩) 0 G) (some w.heap.size) rfl rfl ⟨rfl, Nat.le_succ _⟩ (by rw [World.size_alloc]; exact Nat.le_succ _) (fun b hb => by exact Below.heap_alloc w.drew _ b hb) (fun x hx => by cases hx; refine ⟨Nat.le_refl _, ?_⟩; rw [World.size_alloc]; exact Nat.lt_succ_self _) ⟨_, _, _, rfl⟩
      ⟨by simp, .inr ⟨w.heap.size, G, cells, rfl, Nat.zero_le _, World.alloc_heap_new w.drew _, Nat.zero_le _, e2, e3, by simp⟩⟩ rfl
    exact ⟨_, L', rfl, hL⟩
end Go.Exe
/-
  Yi: a function whose end is told up to a choice; operations that are reckoned, as steps of such regions.
-/
namespace Go.Exe
open Go.RowKit
def PostGE {β : Type} (C : Ctx) (rs : List ResultVar) (Sy : β → Prop) (s1 : β → St) (e : Exit) (s : St) : Prop := ∃ b, Sy b ∧ PostG C rs (s1 b) e s
theorem GCallE.intro {β : Type} {Sy : β → Prop} {P : Program} {f np : Nat} {fn : Func} {c : Code} {s0 : St} {s1 : β → St} {nt : Nat} {rs : List ResultVar} (hf : P.funcs[f]? = some fn) (hb : fn.body = some c) (hfn : FnOk fn nt rs) (hn : s0.nt ≤ nt) (hex : s0.ex = [])
    (h : ∀ C : Ctx, C.P = P → C.np = np → W C c { s0 with nt := nt } (PostGE C rs Sy s1)) : GCallE P f np s0 Sy s1 := by
  obtain ⟨hname, rfl, rfl⟩ := hfn
  refine ⟨⟨fn, hf, by rw [hb]; rfl, hname⟩, fun C hC hnp vs w L hs => ?_⟩
  subst hC
  have hsz : vs.length = s0.nt := by have := hs.nt; simpa using this
  have hsim : Sim C { s0 with nt := fn.ntmps } { tmps := vs.toArray ++ Array.replicate (fn.ntmps - vs.toArray.size) undef, defers := [] } w L := by
    refine ⟨hs.os, hs.tape, hs.output, hs.size, hs.kept, by simp; omega, fun i => ?_, hs.ob, hs.inj, hs.own, rfl, hs.pin⟩
    have h1 := hs.tm i
    have : (vs.toArray ++ Array.replicate (fn.ntmps - vs.toArray.size) undef).getD i undef = vs.toArray.getD i undef := by
      rw [Array.getD_eq_getD_getElem?, Array.getD_eq_getD_getElem?, Array.getElem?_append]
      split
      · rfl
      · rename_i hi
        rw [Array.getElem?_replicate, Array.getElem?_eq_none (xs := vs.toArray) (by omega)]
        split <;> rfl
    show RepT C.P _ w _ L ((vs.toArray ++ Array.replicate (fn.ntmps - vs.toArray.size) undef).getD i undef) _
    rw [this]
    exact h1
  refine calls_of_wp hf hb (wp_mono (h C rfl hnp _ _ ⟨L, hsim⟩) ?_)
  rintro e a' w' ⟨s', hs', bb, hSb, ⟨he, s2, r, hfit, hr, hex2, hsb⟩⟩
  obtain ⟨L2, hs2⟩ := hfit _ _ hs'
  obtain ⟨v, h1, h2⟩ := hs2.resG (fn := fn) hr
  have hu : s2.used = St.used { t := [(0, r)], h := s2.h, nx := s2.nx, ex := [], nt := 1 } := by
    funext k; simp [St.used, hex2]
  have hsr : Sim C { t := [(0, r)], h := s2.h, nx := s2.nx, ex := [], nt := 1 } { tmps := #[v], defers := [] } w' L2 := by
    refine ⟨hs2.os, hs2.tape, hs2.output, hs2.size, hs2.kept, rfl, fun i => ?_, fun k o hk => ?_, hs2.inj, hs2.own, rfl, fun k hk => by have := hs2.pin k hk; rw [hu] at this; exact this⟩
    · cases i with
      | zero =>
        show RepT C.P (okOf C s2 L2) w' _ L2 v r
        rw [← hu]; exact h2
      | succ i =>
        show RepT C.P _ w' _ L2 _ (.c .dead)
        trivial
    · have := hs2.ob k o hk
      rw [hu] at this
      exact this
  rw [← hsb] at hsr
  rcases he with rfl | rfl
  · exact ⟨hs2.defers, v, h1, bb, v, L2, hSb, rfl, hsr⟩
  · exact ⟨hs2.defers, v, h1, bb, v, L2, hSb, rfl, hsr⟩
theorem GCallE.introG {β : Type} {Sy : β → Prop} {P : Program} {f np : Nat} {fn : Func} {c : Code} {args : List TV} {h0 : List (Nat × Obj)} {nx : Nat} {s1 : β → St} {nt : Nat} {rs : List ResultVar} (hf : P.funcs[f]? = some fn) (hb : fn.body = some c) (hfn : FnOk fn nt rs) (hn : args.length ≤ nt)
    (h : ∀ C : Ctx, C.P = P → C.np = np → W C c ⟨idx 0 args, h0, nx, [], nt⟩ (PostGE C rs Sy s1)) : GCallE P f np (St.g args h0 nx) Sy s1 := GCallE.intro hf hb hfn hn rfl h
section
variable {C : Ctx} {s : St}
theorem OpE.ofAOp {o : Oper} (k : Nat) {K : St → Prop} (hk : ¬ s.used k) (h : AOp C k o s fun _ U => K (s.ups U)) : OpE C o s K := by
  obtain ⟨F, U, h1, _, h2⟩ := h.out
  exact (h1 s (fun x _ => by cases x <;> rfl) rfl hk).e h2
end
end Go.Exe
/-
  Yj: a field of one cell, out of a struct's value.
-/
namespace Go.Exe
open Go.RowKit
section
variable {C : Ctx} {s : St}
/-- Where a field of one cell lies in its struct. -/
def F1 (P : Program) (t : TypeId) (f k : Nat) : Prop := ∃ fs fd, P.underlying t = some (.struct fs) ∧ fs[f]? = some fd ∧ fd.offset = k ∧ ∀ w, (isAgg fd.type).run P w = .ok false w
theorem AX.field {o : Oper} {k : Nat} {K : List Key → List Upd → Prop} {y : Operand} {t : TypeId} {f j : Nat} {cs : List Cell} {c : Cell} (ho : o.op = .field t y f) (hF : F1 C.P t f j) (hy : s.ev y = .g cs) (hc : cs[j]? = some c) (hd : dstOk o.dst s.nt = true) (h : K (opK y) (dU o.dst (.c c))) : AX C k o s K := by
  refine ⟨_, _, fun s1 hag hnt hk => ?_, fun u hu j hj => (given_dU u hu j hj).elim, h⟩
  rw [ups_dU]
  have e1 : s1.ev y = s.ev y := agree_ev hag (by intro x hx; simp [hx])
  refine opOk_same (by rw [hnt]; exact dstOk_spec hd) fun a w L hs => ?_
  have hv := hs.ev y
  rw [e1, hy] at hv
  obtain ⟨vs, h1, h2⟩ := hv
  obtain ⟨v, hv, hr⟩ := h2.get_right hc
  obtain ⟨fs, fd, q1, q2, rfl, q4⟩ := hF
  refine ⟨v, ?_, hr⟩
  have hj : fd.offset < vs.length := (List.getElem?_eq_some_iff.1 hv).1
  unfold execOp
  simp [ho, h1, Instr.field, Sem.run_bind, run_underlying q1, q2, part, q4, asAgg, hv]
end
end Go.Exe
/-
  Yk: a row's nil slices as empty slices.
-/
namespace Go.Exe
open Go.RowKit
end Go.Exe
/-
  Yl: the operations' lemmas once more, their side conditions proved by fixed words.
-/
namespace Go.Exe
open Go.RowKit
open Go.Maps (Keyed)
section
variable {C : Ctx} {s : St} {k : Nat} {o : Oper} {K : List Key → List Upd → Prop}
theorem aP {y : Operand} {ys : Array Operand} {ts : Array TypeId} {f : Nat} {args : List TV} {r : TV} (h : K (opK y ++ argsK s ys.toList) (dU o.dst r)) (ho : o.op = .call { callee := .value y, args := ys, argTypes := ts } := by exact rfl) (hy : fnOf (s.ev y) = some (f, []) := by exact rfl) (ha : s.imArgs ys.toList = some args := by simp only [go_sem, unim_im]; rfl) (hc : PCall C.P f args r := by solve_by_elim) (hr : flatT r = true := by exact rfl) (hd : dstOk o.dst s.nt = true := by exact rfl) : AX C k o s K := AX.pcall ho hy ha hc hr hd h
theorem aF {y : Operand} {ys : Array Operand} {ts : Array TypeId} {f : Nat} {args : List TV} {r : TV} {Z : List Upd} (h : K (opK y ++ argsK s ys.toList) (Z ++ dU o.dst r)) (ho : o.op = .call { callee := .value y, args := ys, argTypes := ts } := by exact rfl) (hy : fnOf (s.ev y) = some (f, []) := by exact rfl) (hz : frzArgs s ys.toList = some Z := by simp only [go_sem, unim_im]; rfl) (ha : s.imArgs ys.toList = some args := by simp only [go_sem, unim_im]; rfl) (hc : PCall C.P f args r := by solve_by_elim) (hr : imOnly r = true := by exact rfl) (hd : dstOk o.dst s.nt = true := by exact rfl) : AX C k o s K := AX.pcallF ho hy hz ha hc hr hd h
theorem aP0 {y : Operand} {ys : Array Operand} {ts : Array TypeId} {f : Nat} {args : List TV} {r : TV} (h : K (opK y ++ argsK s ys.toList) (dU o.dst r)) (ho : o.op = .call { callee := .value y, args := ys, argTypes := ts } := by exact rfl) (hy : fnOf (s.ev y) = some (f, []) := by exact rfl) (ha : s.imArgs ys.toList = some args := by exact rfl) (hc : PCall C.P f args r := by solve_by_elim) (hr : flatT r = true := by exact rfl) (hd : dstOk o.dst s.nt = true := by exact rfl) : AX C k o s K := AX.pcall ho hy ha hc hr hd h
theorem aL {t kt e : TypeId} {y z : Operand} {ok : Bool} {c : Cell} {es : List (Value × Bool × List Cell)} {key : Value} {g : Bool} {zs : List Value} (h : K (opK y ++ opK z ++ mapK c) (dU o.dst (lookTV ok (mget key es) g zs))) (ho : o.op = .lookup t y z ok := by exact rfl) (ht : MT C.P t = some (kt, e) := by exact aTM rfl) (hz : ZG C.P e = some (g, zs) := by exact aTG rfl) (KK : Keyed C.P kt := by exact aKD rfl) (hy : s.ev y = .c c := by exact rfl) (hc : s.mpc kt c = some es := by exact rfl) (hkey : keyV (s.ev z) = some key := by exact rfl) (hk : KeyOk C.P kt key := by assumption) (hd : dstOk o.dst s.nt = true := by exact rfl) : AX C k o s K := AX.lookup ho ht hz KK hy hc hkey hk hd h
theorem aU {t kt e k0 : TypeId} {m z x : Operand} {es : List (Value × Bool × List Cell)} {key : Value} {y : Bool × List Cell} (h : K (opK m ++ opK z ++ opK x ++ [.h k0]) [.set k0 (.map kt (mput key y es))]) (ho : o.op = .mapUpdate t m z x := by exact rfl) (hd : o.dst = none := by exact rfl) (ht : MT C.P t = some (kt, e) := by exact aTM rfl) (KK : Keyed C.P kt := by exact aKD rfl) (hm : s.ev m = .c (.mp k0) := by exact rfl) (hob : s.ob k0 = some (.map kt es) := by exact rfl) (hkey : keyV (s.ev z) = some key := by exact rfl) (hk : KeyOk C.P kt key := by assumption) (hx : toComp (s.ev x) = some y := by exact rfl) (hnn : noOwnO (mget key es) = true := by simp only [go_sem, reduceCtorEq]) : AX C k o s K := AX.mapUpdate ho hd ht KK hm hob hkey hk hx hnn h
theorem aM {t kt e : TypeId} (h : K [] (.new k (.map kt []) :: dU o.dst (.c (.mp k)))) (ho : o.op = .makeMap t none := by exact rfl) (ht : MT C.P t = some (kt, e) := by exact aTM rfl) (hd : dstOk o.dst s.nt = true := by exact rfl) : AX C k o s K := AX.makeMap ho ht hd h
theorem aR {t kt e : TypeId} {y : Operand} {c : Cell} {es : List (Value × Bool × List AV)} (h : K (opK y ++ mapK c) (.new k (.itf kt es []) :: dU o.dst (.c (.ptr k 0)))) (ho : o.op = .range t y := by exact rfl) (ht : MT C.P t = some (kt, e) := by exact aTM rfl) (hy : s.ev y = .c c := by exact rfl) (hc : s.mpf kt c = some es := by exact rfl) (hd : dstOk o.dst s.nt = true := by exact rfl) : AX C k o s K := AX.range ho ht hy hc hd h
theorem aH {t t' : TypeId} {y z : Operand} {kk kk' : IntKind} {a b : Int} (h : K (opK y ++ opK z) (dU o.dst (ft (.int kk (a.fdiv (2 ^ (min b.toNat kk.bits))))))) (ho : o.op = .binOp .shr t y z t' := by exact rfl) (hy : s.ev y = ft (.int kk a) := by exact rfl) (hz : s.ev z = ft (.int kk' b) := by exact rfl) (hd : dstOk o.dst s.nt = true := by exact rfl) (hb : 0 ≤ b := by first | decide | omega) : AX C k o s K := AX.shr ho hy hz hd hb h
theorem aZ {op : BinOp} {t t' e : TypeId} {y : Operand} {c : Cell} {b : Bool} (h : K (opK y) (dU o.dst (ft (.bool (if op = .eql then b else !b))))) (ho : o.op = .binOp op t y (.const (.slice none 0 0)) t' := by exact rfl) (ht : EL C.P t = some e := by exact aTL rfl) (hop : op = .eql ∨ op = .neq := by first | exact .inl rfl | exact .inr rfl) (hy : s.ev y = .c c := by exact rfl) (hb : nilS c = some b := by exact rfl) (hd : dstOk o.dst s.nt = true := by exact rfl) : AX C k o s K := AX.nilSl ho ht hop hy hb hd h
theorem aA {k0 n : Nat} {e : TypeId} {bs : Nat} {y : Operand} {t tb : TypeId} {cs : List Cell} {xs : List AV} (h : K (opK y ++ [.h k0]) (.del k0 :: dU o.dst (.c (.im (.sl e (xs.map fun x => [x])))))) (ho : o.op = .slice t y none none none := by exact rfl) (ht : C.P.underlying t = some (.array n e) := by exact hA) (hi : EInfo C.P e = some (1, bs) := by exact hE) (hy : s.ev y = .c (.ptr k0 0) := by exact rfl) (hb : s.ob k0 = some (.box tb cs) := by exact rfl) (hc : unimL cs = some xs := by exact rfl) (hn : xs.length = n := by exact rfl) (hmx : n ≤ maxLen := by rw [maxLen_is]; omega) (hbt : n * bs ≤ 140737488355328 := by omega) (hd : dstOk o.dst s.nt = true := by exact rfl) : AX C k o s K := AX.arrSl ho ht hi hy hb hc hn hmx hbt hd h
theorem aE {t t' : TypeId} {y z : Operand} {a b : Array Value} {r : Bool} (h : K (opK y ++ opK z) (dU o.dst (ft (.bool r)))) (ho : o.op = .binOp .eql t y z t' := by exact rfl) (hy : keyV (s.ev y) = some (.agg a) := by exact rfl) (hz : keyV (s.ev z) = some (.agg b) := by exact rfl) (hg : C.P.eqGuardType C.P.depth t = false := by exact hG) (heq : ∀ w, (Op.equal t (.agg a) (.agg b)).run C.P w = .ok r w := by exact hE) (hd : dstOk o.dst s.nt = true := by exact rfl) : AX C k o s K := AX.eqKey ho hy hz hg heq hd h
theorem aQ {t t' : TypeId} {y z : Operand} {a b : Array Value} {r : Bool} (h : K (opK y ++ opK z) (dU o.dst (ft (.bool (!r))))) (ho : o.op = .binOp .neq t y z t' := by exact rfl) (hy : keyV (s.ev y) = some (.agg a) := by exact rfl) (hz : keyV (s.ev z) = some (.agg b) := by exact rfl) (hg : C.P.eqGuardType C.P.depth t = false := by exact hG) (heq : ∀ w, (Op.equal t (.agg a) (.agg b)).run C.P w = .ok r w := by exact hE) (hd : dstOk o.dst s.nt = true := by exact rfl) : AX C k o s K := AX.neKey ho hy hz hg heq hd h
theorem aD {y : Operand} {t : TypeId} {f j : Nat} {cs : List Cell} {c : Cell} (h : K (opK y) (dU o.dst (.c c))) (ho : o.op = .field t y f := by exact rfl) (hF : F1 C.P t f j := by assumption) (hy : s.ev y = .g cs := by exact rfl) (hc : cs[j]? = some c := by exact rfl) (hd : dstOk o.dst s.nt = true := by exact rfl) : AX C k o s K := AX.field ho hF hy hc hd h
theorem aK {k0 f : Nat} {y : Operand} {t : TypeId} {cs : List Cell} {xs : List AV} (h : K (opK y ++ [.h k0]) (.del k0 :: dU o.dst (.c (.im (.fn f [.pt xs]))))) (ho : o.op = .makeFunc (.func f) #[] #[y] := by exact rfl) (hy : s.ev y = .c (.ptr k0 0) := by exact rfl) (hb : s.ob k0 = some (.box t cs) := by exact rfl) (hc : unimL cs = some xs := by exact rfl) (hd : dstOk o.dst s.nt = true := by exact rfl) : AX C k o s K := AX.makeFn ho hy hb hc hd h
theorem aY {y z : Operand} {ts : Array TypeId} {l k0 : Nat} {x : TV} {J1 J2 : (Nat → Prop) → List Nat → World → Prop} (h : K (opK y ++ opK z ++ [.h k0]) (.set k0 (.raw J2) :: dU o.dst (ft (.bool true)))) (ho : o.op = .call { callee := .value y, args := #[z], argTypes := ts } := by exact rfl) (hy : s.ev y = ft (.func (.yield l) #[] #[]) := by exact rfl) (hz : s.ev z = x := by exact rfl) (hx : fzT x = true := by exact rfl) (hb : s.ob k0 = some (.raw J1) := by exact rfl) (hc : YC C.P l J1 x J2 := by solve_by_elim) (hd : dstOk o.dst s.nt = true := by exact rfl) : AX C k o s K := AX.yield (k0 := k0) ho hy hz hx hb hc hd h
theorem aC {y : Operand} {ys : Array Operand} {ts : Array TypeId} {f : Nat} {cs : List AV} {args : List TV} {r : TV} (h : K (opK y ++ argsK s ys.toList) (dU o.dst r)) (ho : o.op = .call { callee := .value y, args := ys, argTypes := ts } := by exact rfl) (hy : s.ev y = .c (.im (.fn f cs)) := by exact rfl) (ha : s.imArgs ys.toList = some args := by simp only [go_sem, unim_im]; rfl) (hc : PCall C.P f (args ++ cs.map fun c => .c (.im c)) r := by simp only [List.map, List.cons_append, List.nil_append]; solve_by_elim) (hr : flatT r = true := by exact rfl) (hd : dstOk o.dst s.nt = true := by exact rfl) : AX C k o s K := AX.pcallC ho hy ha hc hr hd h
end
section
variable {C : Ctx} {s : St} {Q : Exit → St → Prop} {id : Nat} {ops : Array Oper}
theorem wR (h : Run C ops s.nx 0 ops.toList s fun s' => Q .normal (s'.bump (s.nx + ops.toList.length))) (hex : s.ex = [] := by exact rfl) : W C (.region id ops false) s Q := W.reg hex h
theorem wD (h : RunD C ops s.nx 0 ops.toList s [] fun s' tr => indepK ops.toList [] ops.toList tr = true ∧ Q .normal (s'.bump (s.nx + ops.toList.length))) (hf : C.P.follows .mixedOrders = true := by exact aMo) (hb : backs 0 ops.toList = true := by exact rfl) (hex : s.ex = [] := by exact rfl) : W C (.region id ops true) s Q := W.regD hf hb hex h
theorem wT {c : Operand} {x y : Code} (h : W C x s Q) (hc : s.ev c = .c (.im (.flat (.bool true))) := by exact rfl) : W C (.cond c x y) s Q := W.condT hc h
theorem wF {c : Operand} {x y : Code} (h : W C y s Q) (hc : s.ev c = .c (.im (.flat (.bool false))) := by exact rfl) : W C (.cond c x y) s Q := W.condF hc h
theorem wC {c : Operand} {x y : Code} {b : Bool} (h1 : b = true → W C x s Q) (h2 : b = false → W C y s Q) (hc : s.ev c = .c (.im (.flat (.bool b))) := by exact rfl) : W C (.cond c x y) s Q := W.cond hc h1 h2
end
theorem lk_mem1 {α : Type} {i : Nat} {x : α} : ∀ {l : List (Nat × α)}, lk l i = some x → (i, x) ∈ l
  | [], h => by cases h
  | p :: r, h => by
    unfold lk at h
    cases e : Nat.beq p.1 i with
    | true => rw [e] at h; cases h; cases beq_t e; exact List.mem_cons_self
    | false => rw [e] at h; exact List.mem_cons_of_mem _ (lk_mem1 h)
theorem lk_all {α : Type} {Q : Nat → α → Prop} {l : List (Nat × α)} (h : ∀ p ∈ l, Q p.1 p.2) {i : Nat} {x : α} (e : lk l i = some x) : Q i x := h (i, x) (lk_mem1 e)
theorem iK {L l : List Oper} {p q : KTrace} {R : Prop} (h : R) (e : indepK L p l q = true := by kernel_rfl) : indepK L p l q = true ∧ R := And.intro e h
theorem aI2 {p q : Prop} (h : q) (e : p := by first | omega | assumption | (simp only [go_sem]; omega) | (simp; omega) | (simp; done) | rfl) : p ∧ q := And.intro e h
end Go.Exe
/-
  Ym: the place of an array's element.
-/
namespace Go.Exe
open Go.RowKit
section
variable {C : Ctx} {s : St}
end
end Go.Exe
/-
  Yn: what came in, read as trees: any type out of ints, bools, strings, structs, arrays and slices.
-/
namespace Go.Exe
open Go.RowKit Go.ChangeShapes Go.WideShapes Go.ChangeAt
/-- The fields lie one behind the other. -/
def contig (P : Program) : Nat → List Field → Option Nat
  | o, [] => some o
  | o, f :: r => if f.offset = o then contig P (o + P.cellsOf f.type) r else none
def pln (P : Program) : Nat → TypeId → Bool
  | 0, _ => false
  | f + 1, t => match P.underlying t with
    | some .bool => true
    | some (.int _) => true
    | some .string => true
    | some (.slice e) => (match EInfo P e with | some (sz, _) => Nat.blt 0 sz && pln P f e | none => false)
    | some (.struct fs) => decide (contig P 0 fs.toList = some (P.cellsOf t)) && fs.toList.all fun x => pln P f x.type
    | some (.array n e) => decide (n * P.cellsOf e = P.cellsOf t) && pln P f e
    | _ => false
/-- A value of a type, as trees. -/
def Typ (P : Program) : Nat → TypeId → List AV → Prop
  | 0, _, _ => False
  | f + 1, t, xs => match P.underlying t with
    | some .bool => ∃ b, xs = [.flat (.bool b)]
    | some (.int k) => ∃ n, xs = [.flat (.int k n)] ∧ k.min ≤ n ∧ n ≤ k.max
    | some .string => ∃ s : ByteArray, xs = [.flat (.string s)] ∧ s.size ≤ maxLen ∧ s.size ≤ 140737488355328
    | some (.slice e) => ∃ rows, xs = [.sl e rows] ∧ ∀ r ∈ rows, Typ P f e r
    | some (.struct fs) => ∃ parts : List (List AV), xs = parts.flatten ∧ Al (fun (x : Field) r => Typ P f x.type r) fs.toList parts
    | some (.array n e) => ∃ parts : List (List AV), xs = parts.flatten ∧ parts.length = n ∧ ∀ r ∈ parts, Typ P f e r
    | _ => False
theorem EInfo_cells {P : Program} {e : TypeId} {sz bs : Nat} (h : EInfo P e = some (sz, bs)) : P.cellsOf e = sz ∧ P.bytesOf e = bs := by
  unfold EInfo at h
  simp only [Option.map_eq_some_iff] at h
  obtain ⟨i, hi, he⟩ := h
  cases he
  simp [Program.cellsOf, Program.bytesOf, hi]
theorem weightsAll_mem {H : Type} {P : Program} {e : TypeId} : ∀ {ds : List (DataW H)} {d : DataW H} {m : Nat}, d ∈ ds → m ∈ d.weights P e → m ∈ DataW.weightsAll P e ds
  | x :: r, d, m, hd, hm => by
    rw [DataW.weightsAll, List.mem_append]
    rcases List.mem_cons.1 hd with rfl | hd
    · exact .inl hm
    · exact .inr (weightsAll_mem hd hm)
theorem Al_flat {P : Program} {ok : Nat → Prop} {w : World} : ∀ {vss : List (List Value)} {xss : List (List AV)}, Al (Al (RepA P ok w)) vss xss → Al (RepA P ok w) vss.flatten xss.flatten
  | [], xss, h => by obtain rfl := h.nil_left; exact Al.nil
  | v :: vss, xss, h => by
    cases xss with
    | nil => have := h.nil_right; cases this
    | cons x xss =>
      obtain ⟨h1, h2⟩ := Al.cons_iff.1 h
      exact h1.append (Al_flat h2)
/-- Pieces that lie one behind the other are the whole. -/
theorem pieces (P : Program) (cs : List Value) : ∀ (fs : List Field) (o n : Nat), contig P o fs = some n → n = cs.length → (fs.map fun f => (cs.drop f.offset).take (P.cellsOf f.type)).flatten = cs.drop o
  | [], o, n, h, hn => by
    simp only [contig, Option.some.injEq] at h
    simp; omega
  | f :: r, o, n, h, hn => by
    unfold contig at h
    split at h
    · rename_i e
      rw [List.map_cons, List.flatten_cons, pieces P cs r _ n h hn, e, ← List.drop_drop, List.take_append_drop]
    · cases h
theorem pieces_arr (cs : List Value) (sz : Nat) : ∀ (n k : Nat), (k + n) * sz = cs.length → ((List.range n).map fun i => (cs.drop ((k + i) * sz)).take sz).flatten = cs.drop (k * sz)
  | 0, k, h => by simp at h ⊢; omega
  | n + 1, k, h => by
    rw [List.range_succ_eq_map, List.map_cons, List.flatten_cons, List.map_map]
    have := pieces_arr cs sz n (k + 1) (by rw [← h]; congr 1; omega)
    rw [show ((fun i => (cs.drop ((k + i) * sz)).take sz) ∘ Nat.succ) = fun i => (cs.drop ((k + 1 + i) * sz)).take sz by funext i; simp only [Function.comp, Nat.succ_eq_add_one]; rw [show k + (i + 1) = k + 1 + i by omega]]
    rw [this, Nat.add_zero, show (k + 1) * sz = k * sz + sz by rw [Nat.succ_mul], ← List.drop_drop, List.take_append_drop]
section
variable {H : Type} {enc : TypeId × Value → H} {P : Program} {w : World} {base : Nat} {spare : Nat → Bool} {held : Bool}
theorem trod_rep : ∀ (f : Nat) {n : Nat} {t : TypeId} {cs : List Value} {y : DataW H × List MemPlace}, pln P f t = true → DataW.trod enc P w base spare held n t cs = some y → (∀ m ∈ y.1.weights P t, m ≤ reachBytes) →
    ∃ xs : List AV, Al (RepA P (fun _ => True) w) cs xs ∧ Typ P f t xs
  | 0, n, t, cs, y, hp, h, hz => by cases hp
  | f + 1, n, t, cs, y, hp, h, hz => by
    unfold pln at hp
    unfold Typ
    cases hu : P.underlying t with
    | none => rw [hu] at hp; cases hp
    | some d =>
      rw [hu] at hp
      cases d with
      | bool =>
        obtain ⟨b, rfl, rfl⟩ := DataW.trod_bool hu h
        exact ⟨[.flat (.bool b)], Al.cons (.flat rfl) Al.nil, b, rfl⟩
      | int k =>
        obtain ⟨a, rfl, rfl, hw⟩ := DataW.trod_int hu h
        simp only [Lit.wf, Bool.and_eq_true, decide_eq_true_eq] at hw
        exact ⟨[.flat (.int k a)], Al.cons (.flat rfl) Al.nil, a, rfl, hw.1, hw.2⟩
      | string =>
        obtain ⟨s, rfl, rfl, hs⟩ := DataW.trod_string hu h
        have hw : s.size ≤ 140737488355328 := by
          have := hz s.data.toList.length (by simp [DataW.weights])
          simp only [reachBytes, Array.length_toList] at this
          show s.data.size ≤ _
          omega
        exact ⟨[.flat (.string s)], Al.cons (.flat rfl) Al.nil, s, rfl, hs, hw⟩
      | slice e =>
        simp only at hp ⊢
        rcases DataW.trod_slice hu h with ⟨rfl, rfl⟩ | ⟨a, len, cap, elems, rest, m, rfl, rfl, rfl, _, hl, hm, hlen, hel, _, _⟩
        · exact ⟨[.sl e []], Al.cons .nil Al.nil, [], rfl, by simp⟩
        · cases he : EInfo P e with
          | none => rw [he] at hp; cases hp
          | some p =>
            obtain ⟨sz, bs⟩ := p
            rw [he] at hp
            simp only [Bool.and_eq_true] at hp
            obtain ⟨hs0, hp⟩ := hp
            have hs0 : 0 < sz := Nat.le_of_ble_eq_true hs0
            obtain ⟨hsz, hbs⟩ := EInfo_cells he
            rw [hsz] at hel
            simp only [DataW.weights, hu, List.length_map, hbs] at hz
            have hb : len * bs ≤ 140737488355328 := by
              have h1 := hz _ (List.mem_cons_self)
              have h2 : elems.length * bs ≤ (elems.length + rest.length) * bs := Nat.mul_le_mul_right _ (by omega)
              rw [hlen] at h1 h2
              simp only [reachBytes] at h1
              omega
            have each : ∀ i : Nat, i < len → ∃ (vs : List Value) (xs : List AV), (∀ k, k < sz → w.cell? (a.add (i * sz + k)) = vs[k]?) ∧ vs.length = sz ∧ Al (RepA P (fun _ => True) w) vs xs ∧ Typ P f e xs := fun i hi => by
              have h1 := hel i hi
              rw [List.getElem?_eq_getElem (by omega), Option.bind_eq_some_iff] at h1
              obtain ⟨vs, h2, h3⟩ := h1
              obtain ⟨_, h4, h5⟩ := World.cells?_some h2
              obtain ⟨xs, h6, h7⟩ := trod_rep f hp h3 fun q hq => hz q (List.mem_cons_of_mem _ (List.mem_append_left _ (weightsAll_mem (List.mem_map_of_mem (List.getElem_mem (by omega))) hq)))
              refine ⟨vs, xs, fun k hk => ?_, h4, h6, h7⟩
              rw [← add_add]; exact h5 k hk
            obtain ⟨g, hg⟩ : ∃ g : Nat → List Value × List AV, ∀ i, i < len → (∀ k, k < sz → w.cell? (a.add (i * sz + k)) = (g i).1[k]?) ∧ (g i).1.length = sz ∧ Al (RepA P (fun _ => True) w) (g i).1 (g i).2 ∧ Typ P f e (g i).2 := by
              refine ⟨fun i => if hi : i < len then ⟨(each i hi).choose, (each i hi).choose_spec.choose⟩ else ([], []), fun i hi => ?_⟩
              simp only [dif_pos hi]
              exact (each i hi).choose_spec.choose_spec
            have hget : ∀ (j : Nat) (x : List AV), ((List.range len).map fun i => (g i).2)[j]? = some x → j < len ∧ x = (g j).2 := fun j x hx => by
              have hj : j < len := by have := (List.getElem?_eq_some_iff.1 hx).1; simpa using this
              rw [List.getElem?_map, List.getElem?_range hj] at hx
              exact ⟨hj, (Option.some.inj hx).symm⟩
            refine ⟨[.sl e ((List.range len).map fun i => (g i).2)], Al.cons ?_ Al.nil, _, rfl, fun r hr => ?_⟩
            · refine RepA.sl (fun j i => (g j).1.getD i undef) he hs0 (by simp) hl hm hb (fun j x hx => ?_) (fun j i hj hi => ?_) (fun _ => trivial) fun j i x z hx hz => ?_
              · obtain ⟨hj, rfl⟩ := hget j x hx
                rw [← (hg j hj).2.2.1.1]; exact (hg j hj).2.1
              · rw [(hg j hj).1 i hi, List.getD_eq_getElem?_getD, List.getElem?_eq_getElem (by rw [(hg j hj).2.1]; exact hi)]
                rfl
              · obtain ⟨hj, rfl⟩ := hget j x hx
                obtain ⟨v, hv, hr⟩ := (hg j hj).2.2.1.get_right hz
                simp only [List.getD_eq_getElem?_getD, hv, Option.getD_some]
                exact hr
            · obtain ⟨i, hi, rfl⟩ := List.mem_map.1 hr
              exact (hg i (List.mem_range.1 hi)).2.2.2
      | struct fs =>
        simp only [Bool.and_eq_true, decide_eq_true_eq, List.all_eq_true] at hp
        obtain ⟨hc, hp⟩ := hp
        obtain ⟨ys, m, rfl, rfl, hl, hyl, hy⟩ := DataW.trod_struct hu h
        simp only [DataW.weights, hu] at hz
        have each : ∀ i : Nat, i < fs.toList.length → ∃ xs : List AV, ∀ x : Field, fs.toList[i]? = some x → Al (RepA P (fun _ => True) w) ((cs.drop x.offset).take (P.cellsOf x.type)) xs ∧ Typ P f x.type xs := fun i hi => by
          have hil : i < ys.length := by rw [hyl]; simpa using hi
          have hx := List.getElem?_eq_getElem hi
          obtain ⟨z, hz0⟩ : ∃ z, z = fs.toList[i] := ⟨_, rfl⟩
          rw [← hz0] at hx
          have h1 := hy i z (by simpa using hx)
          rw [List.getElem?_eq_getElem hil] at h1
          obtain ⟨xs, h2⟩ := trod_rep f (hp z (List.mem_of_getElem? hx)) h1 fun q hq => hz q (DataW.weights_mem_each (j := i) (by simp [hx]) (by simp [List.getElem?_eq_getElem hil]) q hq)
          refine ⟨xs, fun x hx' => ?_⟩
          obtain rfl : z = x := Option.some.inj (hx.symm.trans hx')
          exact h2
        obtain ⟨g, hg⟩ : ∃ g : Nat → List AV, ∀ (i : Nat) (x : Field), fs.toList[i]? = some x → Al (RepA P (fun _ => True) w) ((cs.drop x.offset).take (P.cellsOf x.type)) (g i) ∧ Typ P f x.type (g i) := by
          refine ⟨fun i => if hi : i < fs.toList.length then (each i hi).choose else [], fun i x hx => ?_⟩
          have hi : i < fs.toList.length := (List.getElem?_eq_some_iff.1 hx).1
          simp only [dif_pos hi]
          exact (each i hi).choose_spec x hx
        have hgl : ∀ (i : Nat) (r : List AV), ((List.range fs.toList.length).map g)[i]? = some r → i < fs.toList.length ∧ r = g i := fun i r hr => by
          have hi : i < fs.toList.length := by have := (List.getElem?_eq_some_iff.1 hr).1; simpa using this
          rw [List.getElem?_map, List.getElem?_range hi] at hr
          exact ⟨hi, (Option.some.inj hr).symm⟩
        refine ⟨((List.range fs.toList.length).map g).flatten, ?_, _, rfl, by simp, fun i x r hx hr => ?_⟩
        · have hcs := pieces P cs fs.toList 0 _ hc hl.symm
          rw [List.drop_zero] at hcs
          rw [← hcs]
          refine Al_flat ⟨by simp, fun i v r hv hr => ?_⟩
          obtain ⟨hi, rfl⟩ := hgl i r hr
          rw [List.getElem?_map, List.getElem?_eq_getElem hi] at hv
          cases hv
          exact (hg i _ (List.getElem?_eq_getElem hi)).1
        · obtain ⟨hi, rfl⟩ := hgl i r hr
          exact (hg i x hx).2
      | array k e =>
        simp only [Bool.and_eq_true, decide_eq_true_eq] at hp
        obtain ⟨hc, hp⟩ := hp
        obtain ⟨ys, m, rfl, rfl, hl, hyl, hy⟩ := DataW.trod_array hu h
        simp only [DataW.weights, hu] at hz
        have each : ∀ i : Nat, i < k → ∃ xs : List AV, Al (RepA P (fun _ => True) w) ((cs.drop (i * P.cellsOf e)).take (P.cellsOf e)) xs ∧ Typ P f e xs := fun i hi => by
          have h1 := hy i hi
          rw [List.getElem?_eq_getElem (by omega)] at h1
          exact trod_rep f hp h1 fun q hq => hz q (weightsAll_mem (List.mem_map_of_mem (List.getElem_mem (by omega))) hq)
        obtain ⟨g, hg⟩ : ∃ g : Nat → List AV, ∀ i : Nat, i < k → Al (RepA P (fun _ => True) w) ((cs.drop (i * P.cellsOf e)).take (P.cellsOf e)) (g i) ∧ Typ P f e (g i) := by
          refine ⟨fun i => if hi : i < k then (each i hi).choose else [], fun i hi => ?_⟩
          simp only [dif_pos hi]
          exact (each i hi).choose_spec
        refine ⟨((List.range k).map g).flatten, ?_, _, rfl, by simp, fun r hr => ?_⟩
        · have hcs := pieces_arr cs (P.cellsOf e) k 0 (by rw [hl]; simpa using hc)
          rw [Nat.zero_mul, List.drop_zero] at hcs
          rw [← hcs]
          refine Al_flat ⟨by simp, fun i v r hv hr => ?_⟩
          have hi : i < k := by have := (List.getElem?_eq_some_iff.1 hr).1; simpa using this
          rw [List.getElem?_map, List.getElem?_range hi] at hv hr
          cases hv
          cases hr
          simpa using (hg i hi).1
        · obtain ⟨i, hi, rfl⟩ := List.mem_map.1 hr
          exact (hg i (List.mem_range.1 hi)).2
      | _ => cases hp
/-- An argument of one cell. -/
theorem arg_c {t : TypeId} {v : Value} {d : DataW H} {ps : List MemPlace} {ts : List TypeId} {ds : List (DataW H)} {j : Nat} (f : Nat) (hp : pln P f t = true) (ha : v.cells.toList = [v])
    (h : DataW.Trod enc P w 0 (fun _ => true) true t v d ps) (hsz : (DataW.weightsEach P ts ds).all (· ≤ reachBytes) = true) (ht : ts[j]? = some t) (hd : ds[j]? = some d) :
    ∃ x : AV, RepT P (fun _ => True) w U0 L0 v (.c (.im x)) ∧ Typ P f t [x] := by
  obtain ⟨n, h⟩ := h
  rw [ha] at h
  obtain ⟨xs, h1, h2⟩ := trod_rep f hp h fun m hm => by
    have := List.all_eq_true.1 hsz _ (DataW.weights_mem_each ht hd m hm)
    simpa using this
  match xs, h1 with
  | [x], h1 => exact ⟨x, h1.2 0 v x rfl rfl, h2⟩
  | [], h1 => cases h1.1
  | _ :: _ :: _, h1 => simp [Al] at h1
end
/-! ### a type's trees, opened -/
section
variable {P : Program} {f : Nat} {t e : TypeId}
def STs (P : Program) (t : TypeId) : Option (List TypeId) := match P.underlying t with | some (.struct fs) => some (fs.toList.map (·.type)) | _ => none
theorem Typ.st {ts : List TypeId} (hu : STs P t = some ts) {xs : List AV} (h : Typ P (f + 1) t xs) : ∃ parts : List (List AV), xs = parts.flatten ∧ Al (fun t r => Typ P f t r) ts parts := by
  unfold STs at hu
  unfold Typ at h
  cases hd : P.underlying t with
  | none => rw [hd] at hu; cases hu
  | some d =>
    rw [hd] at hu h
    cases d with
    | struct fs =>
      cases hu
      obtain ⟨parts, h1, h2⟩ := h
      refine ⟨parts, h1, by simp [h2.1], fun i x r hx hr => ?_⟩
      rw [List.getElem?_map, Option.map_eq_some_iff] at hx
      obtain ⟨fd, hfd, rfl⟩ := hx
      exact h2.2 i fd r hfd hr
    | _ => cases hu
theorem Typ.int {k : IntKind} (hu : P.underlying t = some (.int k)) {xs : List AV} (h : Typ P (f + 1) t xs) : ∃ n, xs = [.flat (.int k n)] ∧ k.min ≤ n ∧ n ≤ k.max := by
  unfold Typ at h; rw [hu] at h; exact h
theorem Typ.bool (hu : P.underlying t = some .bool) {xs : List AV} (h : Typ P (f + 1) t xs) : ∃ b, xs = [.flat (.bool b)] := by
  unfold Typ at h; rw [hu] at h; exact h
theorem Typ.str (hu : P.underlying t = some .string) {xs : List AV} (h : Typ P (f + 1) t xs) : ∃ s : ByteArray, xs = [.flat (.string s)] ∧ s.size ≤ maxLen ∧ s.size ≤ 140737488355328 := by
  unfold Typ at h; rw [hu] at h; exact h
theorem Typ.sl (hu : EL P t = some e) {xs : List AV} (h : Typ P (f + 1) t xs) : ∃ rows, xs = [.sl e rows] ∧ ∀ r ∈ rows, Typ P f e r := by
  unfold EL at hu
  unfold Typ at h
  cases hd : P.underlying t with
  | none => rw [hd] at hu; cases hu
  | some d =>
    rw [hd] at hu h
    cases d with
    | slice e' => cases hu; exact h
    | _ => cases hu
theorem Typ.u8 (hu : P.underlying t = some (.int .u8)) {xs : List AV} (h : Typ P (f + 1) t xs) : ∃ n : Nat, xs = [.flat (.int .u8 (n : Nat))] ∧ n < 256 := by
  obtain ⟨n, rfl, h1, h2⟩ := Typ.int hu h
  simp [IntKind.min, IntKind.max, IntKind.signed, IntKind.bits] at h1 h2
  exact ⟨n.toNat, by rw [Int.toNat_of_nonneg h1], by omega⟩
theorem rows_of {α : Type} {rows : List (List AV)} {ok : α → Prop} {enc : α → List AV} (h : ∀ r ∈ rows, ∃ a, ok a ∧ r = enc a) : ∃ l : List α, (∀ a ∈ l, ok a) ∧ rows = l.map enc := by
  induction rows with
  | nil => exact ⟨[], by simp, rfl⟩
  | cons r rs ih =>
    obtain ⟨a, ha, rfl⟩ := h r (by simp)
    obtain ⟨l, hl, rfl⟩ := ih fun r hr => h r (by simp [hr])
    refine ⟨a :: l, fun b hb => ?_, rfl⟩
    rcases List.mem_cons.1 hb with rfl | hb
    · exact ha
    · exact hl b hb
end
end Go.Exe
/-
  Yo: mapEntry and entryStore (the two halves of an assignment to a map's place).
-/
namespace Go.Exe
open Go.RowKit Go.Maps Go.ChangeMaps
section
variable {C : Ctx} {s : St}
open Classical in
/-- Where a key lies, or the end. -/
noncomputable def mpos (key : Value) : List (Value × Bool × List Cell) → Nat
  | [] => 0
  | e :: r => if e.1 = key then 0 else mpos key r + 1
theorem mpos_none {key : Value} : ∀ {es : List (Value × Bool × List Cell)}, (∀ e ∈ es, e.1 ≠ key) → mpos key es = es.length
  | [], _ => rfl
  | e :: r, h => by
    simp only [mpos, if_neg (h e (by simp)), List.length_cons]
    rw [mpos_none fun x hx => h x (by simp [hx])]
theorem mpos_at {key : Value} : ∀ {es : List (Value × Bool × List Cell)} {j : Nat} {e}, (es.map (·.1)).Nodup → es[j]? = some e → e.1 = key → mpos key es = j
  | x :: r, 0, e, _, h, h2 => by simp at h; subst h; simp [mpos, h2]
  | x :: r, j + 1, e, hn, h, h2 => by
    simp only [List.map_cons, List.nodup_cons] at hn
    have hne : x.1 ≠ key := fun e' => hn.1 (by rw [e', ← h2]; exact List.mem_map_of_mem (List.mem_of_getElem? (by simpa using h)))
    simp only [mpos, if_neg hne]
    rw [mpos_at hn.2 (by simpa using h) h2]
theorem setE_mput (key : Value) (y : Bool × List Cell) (c : Cell) (hy : y.1 = false) : ∀ es : List (Value × Bool × List Cell), setE (mput key y es) (mpos key es) c = mput key (false, [c]) es
  | [] => by simp [mput, mpos, setE, hy]
  | e :: r => by
    by_cases h : e.1 = key
    · simp [mput, mpos, setE, h, hy]
    · simp [mput, mpos, setE, h, setE_mput key y c hy r]
theorem mput_get (key : Value) (y : Bool × List Cell) : ∀ es : List (Value × Bool × List Cell), (mput key y es)[mpos key es]? = some (key, y)
  | [] => by simp [mput, mpos]
  | e :: r => by
    by_cases h : e.1 = key
    · simp [mput, mpos, h]
    · simp [mput, mpos, h, mput_get key y r]
theorem AX.mapEntry {k : Nat} {o : Oper} {K : List Key → List Upd → Prop} {t kt e k0 : TypeId} {m z : Operand} {es : List (Value × Bool × List Cell)} {key z0 : Value} {old : Option Value} (ho : o.op = .mapEntry t m z) (ht : MT C.P t = some (kt, e)) (hz : ZG C.P e = some (false, [z0])) (KK : Keyed C.P kt)
    (hm : s.ev m = .c (.mp k0)) (hob : s.ob k0 = some (.map kt es)) (hkey : keyV (s.ev z) = some key) (hk : KeyOk C.P kt key) (hg : mget key es = old.map fun x => (false, [fl x])) (hd : dstOk o.dst s.nt = true)
    (h : K (opK m ++ opK z ++ [.h k0]) (.set k0 (.map kt (mput key (false, [fl (old.getD z0)]) es)) :: dU o.dst (.t [(false, [fl (old.getD z0)]), (false, [fl (.int .i64 (mpos key es : Nat))])]))) : AX C k o s K := by
  refine ⟨_, _, fun s1 hag hnt hku => ?_, fun u hu j hj => ?_, h⟩
  · show OpOk C o s1 ((s1.putO k0 (.map kt (mput key (false, [fl (old.getD z0)]) es))).ups (dU o.dst _))
    rw [ups_dU]
    have e1 : s1.ev m = s.ev m := agree_ev hag (by intro x hx; simp [hx])
    have e2 : s1.ev z = s.ev z := agree_ev hag (by intro x hx; simp [hx])
    have e4 : s1.ob k0 = some (.map kt es) := by rw [agree_ob hag (by simp)]; exact hob
    refine opOk_val (by rw [show (s1.putO k0 _).nt = s1.nt from rfl, hnt]; exact dstOk_spec hd) fun a w L hs => ?_
    have hv := hs.ev m
    rw [e1, hm] at hv
    obtain ⟨hu0, hv1, _⟩ := hv
    obtain ⟨_, b, ms, clk, ⟨h1, h2, hkeys⟩, hh, hal, hbn, ⟨hnd, hst⟩, hsub⟩ := hs.ob k0 _ e4
    rw [h2] at hv1
    have hkv : a.eval z = key := keyV_spec (hs.ev z) (by rw [e2]; exact hkey)
    have htt := MT_spec ht
    obtain ⟨zv, hz1, hz2, hz3⟩ := ZG_spec hz w
    obtain rfl : z0 = zv := by
      rcases hz2 with ⟨hh, _⟩ | ⟨_, hh⟩
      · cases hh
      · simpa using hh
    obtain ⟨lk', hlk⟩ := hk
    have hck := KK.check w false hlk
    have hgo : (getObj b).run C.P w = .ok (.map (List.toArray ms) clk) w := by simp [getObj, Sem.run, hh]
    have hstay := KK.stays w hlk
    have hlen := hal.1
    rcases findKeyed KK ⟨lk', hlk⟩ hal hkeys w with ⟨hf, hne, hmg⟩ | ⟨j, m0, e0, hf, h3, h4, h5, h6, h7, hmg⟩
    · rw [hmg] at hg
      cases old with
      | some x => simp at hg
      | none =>
        simp only [Option.getD_none]
        rw [mput_none hne, mpos_none hne]
        have hxr : RepT1 C.P (okOf C s1 L) w s1.used L z0 (false, [fl z0]) := ⟨fl z0, rfl, RepA.flat (hz3 z0 (by simp))⟩
        let w' := setBlock w b (.map ((List.toArray ms).push { key := key, val := z0, born := clk }) (clk + 1))
        refine ⟨.tuple #[z0, .int .i64 (clk : Nat)], w', L, ?_, ?_, ?_⟩
        · unfold execOp
          simp [ho, Instr.mapEntry, hv1, hkv, run_underlying htt, Sem.run_bind, hgo, hck, hf, run_setMap hh, w', hz1, goInt]
        · refine hs.write (w' := w') e4 rfl rfl (.inl h1) rfl rfl ⟨rfl, Nat.le_refl _⟩ (by simp [w', setBlock]) (fun x hx => ChangeMaps.heap_setBlock_other hh _ hx) fun hmv => ?_
          refine ⟨b, ms ++ [{ key := key, val := z0, born := clk }], clk + 1, ⟨h1, h2, ?_⟩, ?_, ?_, ?_, ?_, ?_⟩
          · refine ⟨fun x hx => ?_, ?_⟩
            · simp only [List.map_append, List.mem_append, List.map_cons, List.map_nil, List.mem_singleton] at hx
              rcases hx with hx | rfl
              · exact hkeys.1 x hx
              · exact ⟨lk', hlk⟩
            · simp only [List.map_append, List.map_cons, List.map_nil]
              refine List.nodup_append.2 ⟨hkeys.2, by simp, fun x hx y hy => ?_⟩
              simp at hy; subst hy
              obtain ⟨e1, he1, rfl⟩ := List.mem_map.1 hx
              exact hne e1 he1
          · rw [ChangeMaps.heap_setBlock_same hh]; simp
          · refine (hal.imp_at fun i x e hx he h => ⟨h.1, h.2.move hmv (fun _ h => h) (Where.upto_refl _ _) fun b' hb' => ChangeMaps.heap_setBlock_other hh _ fun e2 => ?_⟩).append (Al.cons ⟨rfl, RepM.move (RepM.plain hxr) hmv (fun _ h => h) (Where.upto_refl _ _) (by rw [fpM_plain hxr.no_own]; simp)⟩ Al.nil)
            exact (hsub.2 b' (mem_fpE hx he hb')).2 (by rw [e2]; exact h1)
          · intro m hm
            simp only [List.mem_append, List.mem_singleton] at hm
            rcases hm with hm | rfl
            · exact Nat.lt_succ_of_lt (hbn m hm)
            · exact Nat.lt_succ_self _
          · refine ⟨?_, by rw [List.length_append, hst.1]; rfl, by rw [List.map_append, hst.2, List.length_append, List.length_singleton, List.range_succ]; simp [hst.1]⟩
            simp only [List.map_append, List.map_cons, List.map_nil]
            refine List.nodup_append.2 ⟨hnd, by simp, fun x hx y hy => ?_⟩
            simp at hy; subst hy
            obtain ⟨e1, he1, rfl⟩ := List.mem_map.1 hx
            exact Nat.ne_of_lt (hbn e1 he1)
          · rw [fpE_app ms es hal.1, fpM_plain hxr.no_own, List.append_nil]
            exact hsub
        · rw [← hlen, ← hst.1]
          exact ⟨[z0, .int .i64 (clk : Nat)], rfl, Al.cons ⟨fl z0, rfl, RepA.flat (hz3 z0 (by simp))⟩ (Al.cons ⟨fl (.int .i64 (clk : Nat)), rfl, RepA.flat rfl⟩ Al.nil)⟩
    · rw [hmg] at hg
      cases old with
      | none => simp at hg
      | some x =>
        simp only [Option.map_some, Option.some.injEq] at hg
        simp only [Option.getD_some]
        rw [mpos_at hkeys.2 h4 h6, mput_at hkeys.2 h4 h6]
        rw [hg] at h7
        have hv0 : m0.val = x ∧ x.oneCell' = true := by
          unfold RepM at h7
          simp only [Bool.false_eq_true, if_false] at h7
          obtain ⟨c, hc, hr⟩ := h7
          simp only [List.cons.injEq, and_true] at hc
          subst hc
          have hr : RepC C.P (okOf C s1 L) w s1.used L m0.val (fl x) := hr
          have he := RepA.flat_eq hr
          exact ⟨he, by rw [← he]; exact RepC.one hr (by simp)⟩
        have hxr : RepT1 C.P (okOf C s1 L) w s1.used L x (false, [fl x]) := ⟨fl x, rfl, RepA.flat hv0.2⟩
        let m1 : MapEntry := { m0 with key := key }
        let w' := setBlock w b (.map (List.toArray (ms.set j m1)) clk)
        have hset : (List.toArray ms).modify j (fun e => { e with key := key }) = List.toArray (ms.set j m1) := by
          apply Array.toList_inj.1
          simp only [Array.toList_modify]
          apply List.ext_getElem?
          intro i
          rw [List.getElem?_modify, List.getElem?_set]
          have hjl := (List.getElem?_eq_some_iff.1 h3).1
          by_cases e : j = i
          · subst e
            rw [if_pos rfl, if_pos hjl, h3]
            show some (if j = j then _ else _) = _
            rw [if_pos rfl]
          · rw [if_neg e]
            cases ms[i]? with
            | none => rfl
            | some x => show some (if j = i then _ else _) = _; rw [if_neg e]
        have hborn : m0.born = j := by
          have h9 : (ms.map (·.born))[j]? = some m0.born := by simp [h3]
          rw [hst.2] at h9
          have hjl := (List.getElem?_eq_some_iff.1 h3).1
          rw [List.getElem?_range hjl] at h9
          simpa using h9.symm
        refine ⟨.tuple #[m0.val, .int .i64 (j : Nat)], w', L, ?_, ?_, ?_⟩
        · unfold execOp
          have h8 : ((List.toArray ms)[j]?.map (·.key)).getD key = key := by simp [h3, h5]
          have h9 : ((List.toArray ms)[j]?.map (fun x : MapEntry => (x.born : Int))).getD 0 = (j : Int) := by simp [h3, hborn]
          simp only [ho, Instr.mapEntry, hv1, hkv, run_underlying htt, Sem.run_bind, hgo, hck, hf, Result.andThen_ok, h8, h9, hstay, hset, run_setMap hh, Sem.run_pure, goInt]
          rfl
        · refine hs.write (w' := w') e4 rfl rfl (.inl h1) rfl rfl ⟨rfl, Nat.le_refl _⟩ (by simp [w', setBlock]) (fun x hx => ChangeMaps.heap_setBlock_other hh _ hx) fun hmv => ?_
          have hold : fpM m0.val e0.2 = [] := by
            rw [hg]; exact fpM_plain (fun c hc => by simp at hc; subst hc; rfl)
          refine ⟨b, ms.set j m1, clk, ⟨h1, h2, ?_⟩, ?_, ?_, ?_, ?_, ?_⟩
          · have : (es.set j (key, (false, [fl x]))).map (·.1) = es.map (·.1) := by
              rw [List.map_set]
              have h9 : (es.map (·.1))[j]? = some key := by simp [h4, h6]
              exact (List.getElem?_eq_some_iff.1 h9).2 ▸ List.set_getElem_self _
            rw [this]; exact hkeys
          · rw [ChangeMaps.heap_setBlock_same hh]
          · refine Al.set (hal.imp_at fun i x e hx he h => ⟨h.1, h.2.move hmv (fun _ h => h) (Where.upto_refl _ _) fun b' hb' => ChangeMaps.heap_setBlock_other hh _ fun e2 => ?_⟩) j ⟨rfl, RepM.move (RepM.plain (by rw [show m1.val = x from hv0.1]; exact hxr)) hmv (fun _ h => h) (Where.upto_refl _ _) (by rw [fpM_plain hxr.no_own]; simp)⟩
            exact (hsub.2 b' (mem_fpE hx he hb')).2 (by rw [e2]; exact h1)
          · intro m hm
            rcases List.mem_or_eq_of_mem_set hm with hm | rfl
            · exact hbn m hm
            · exact hbn m0 (List.mem_of_getElem? h3)
          · have h9 : (ms.map (·.born))[j]? = some m0.born := by simp [h3]
            have h10 : (ms.map (·.born)).set j m1.born = ms.map (·.born) := (List.getElem?_eq_some_iff.1 h9).2 ▸ List.set_getElem_self _
            exact ⟨by rw [List.map_set, h10]; exact hnd, by rw [List.length_set]; exact hst.1, by rw [List.map_set, h10, List.length_set]; exact hst.2⟩
          · rw [fpE_set h3 h4 (by rw [hold]; exact fpM_plain hxr.no_own)]
            exact hsub
        · rw [hv0.1]
          exact ⟨[x, .int .i64 (j : Nat)], rfl, Al.cons ⟨fl x, rfl, RepA.flat hv0.2⟩ (Al.cons ⟨fl (.int .i64 (j : Nat)), rfl, RepA.flat rfl⟩ Al.nil)⟩
  · rcases List.mem_cons.1 hu with rfl | hu
    · exact hj.elim
    · exact (given_dU u hu j hj).elim
theorem AX.entryStore {k : Nat} {o : Oper} {K : List Key → List Upd → Prop} {t kt k0 j : Nat} {m z x : Operand} {es : List (Value × Bool × List Cell)} {key : Value} {cs : List Cell} {c : Cell} (ho : o.op = .entryStore t m z x) (hd : o.dst = none)
    (hm : s.ev m = .c (.mp k0)) (hob : s.ob k0 = some (.map kt es)) (hz : s.ev z = ft (.int .i64 (j : Nat))) (hj : es[j]? = some (key, false, cs)) (hnn : noOwn cs = true) (hx : s.ev x = .c c) (h : K (opK m ++ opK z ++ opK x ++ [.h k0]) [.set k0 (.map kt (setE es j c))]) : AX C k o s K := by
  refine ⟨_, _, fun s1 hag hnt hku => ?_, fun u hu j hj => by simp at hu; subst hu; exact hj.elim, h⟩
  show OpOk C o s1 (s1.putO k0 (.map kt (setE es j c)))
  have e1 : s1.ev m = s.ev m := agree_ev hag (by intro x hx; simp [hx])
  have e2 : s1.ev z = s.ev z := agree_ev hag (by intro x hx; simp [hx])
  have e3 : s1.ev x = s.ev x := agree_ev hag (by intro x hx; simp [hx])
  have e4 : s1.ob k0 = some (.map kt es) := by rw [agree_ob hag (by simp)]; exact hob
  refine opOk_skip hd fun a w L hs => ?_
  have hv := hs.ev m
  rw [e1, hm] at hv
  obtain ⟨hu0, hv1, _⟩ := hv
  obtain ⟨_, b, ms, clk, ⟨h1, h2, hkeys⟩, hh, hal, hbn, ⟨hnd, hst⟩, hsub⟩ := hs.ob k0 _ e4
  rw [h2] at hv1
  have hvz := hs.ev z
  rw [e2, hz] at hvz
  have hzv : a.eval z = .int .i64 (j : Nat) := RepA.flat_eq hvz
  have hxr : RepC C.P (okOf C s1 L) w s1.used L (a.eval x) c := by
    have := hs.ev x
    rw [e3, hx] at this
    exact this
  have hxt : RepT1 C.P (okOf C s1 L) w s1.used L (a.eval x) (false, [c]) := ⟨c, rfl, hxr⟩
  have hgo : (getObj b).run C.P w = .ok (.map (List.toArray ms) clk) w := by simp [getObj, Sem.run, hh]
  have hjl : j < ms.length := by rw [hal.1]; exact (List.getElem?_eq_some_iff.1 hj).1
  obtain ⟨m0, h3⟩ : ∃ m0, ms[j]? = some m0 := ⟨_, List.getElem?_eq_getElem hjl⟩
  have hborn : ∀ i (x : MapEntry), ms[i]? = some x → x.born = i := by
    intro i x hx
    have h9 : (ms.map (·.born))[i]? = some x.born := by simp [hx]
    have hil := (List.getElem?_eq_some_iff.1 hx).1
    rw [hst.2, List.getElem?_range hil] at h9
    simpa using h9.symm
  let m1 : MapEntry := { m0 with val := a.eval x }
  let w' := setBlock w b (.map (List.toArray (ms.set j m1)) clk)
  have hfind : (List.toArray ms).findIdx? (fun e => (e.born : Int) == ((j : Nat) : Int)) = some j := by
    rw [List.findIdx?_toArray, List.findIdx?_eq_some_iff_getElem]
    refine ⟨hjl, by have := hborn j _ (List.getElem?_eq_getElem hjl); simp [this], fun i hi => ?_⟩
    have := hborn i _ (List.getElem?_eq_getElem (by omega : i < ms.length))
    simp only [this, beq_iff_eq, Int.natCast_inj]
    simp; omega
  have hset : (List.toArray ms).modify j (fun e => { e with val := a.eval x }) = List.toArray (ms.set j m1) := by
    apply Array.toList_inj.1
    simp only [Array.toList_modify]
    apply List.ext_getElem?
    intro i
    rw [List.getElem?_modify, List.getElem?_set]
    by_cases e : j = i
    · subst e
      rw [if_pos rfl, if_pos hjl, h3]
      show some (if j = j then _ else _) = _
      rw [if_pos rfl]
    · rw [if_neg e]
      cases ms[i]? with
      | none => rfl
      | some x => show some (if j = i then _ else _) = _; rw [if_neg e]
  refine ⟨w', L, ?_, ?_⟩
  · unfold execOp
    have hai : (asInt (.int .i64 ((j : Nat) : Int))).run C.P w = .ok ((j : Nat) : Int) w := rfl
    simp only [ho, Instr.entryStore, hv1, hzv, Sem.run_bind, hgo, Result.andThen_ok, hai, Sem.run_pure, hfind, hset, run_setMap hh]
    rfl
  · refine hs.write (w' := w') e4 rfl rfl (.inl h1) rfl rfl ⟨rfl, Nat.le_refl _⟩ (by simp [w', setBlock]) (fun x hx => ChangeMaps.heap_setBlock_other hh _ hx) fun hmv => ?_
    have hold : fpM m0.val (false, cs) = [] := fpM_plain (noOwn_mem hnn)
    have hke := (hal.2 j m0 _ h3 hj).1
    rw [setE_set c hj] at hmv ⊢
    refine ⟨b, ms.set j m1, clk, ⟨h1, h2, ?_⟩, ?_, ?_, ?_, ?_, ?_⟩
    · have : (es.set j (key, (false, [c]))).map (·.1) = es.map (·.1) := by
        rw [List.map_set]
        have h9 : (es.map (·.1))[j]? = some key := by simp [hj]
        exact (List.getElem?_eq_some_iff.1 h9).2 ▸ List.set_getElem_self _
      rw [this]; exact hkeys
    · rw [ChangeMaps.heap_setBlock_same hh]
    · refine Al.set (hal.imp_at fun i x e hx he h => ⟨h.1, h.2.move hmv (fun _ h => h) (Where.upto_refl _ _) fun b' hb' => ChangeMaps.heap_setBlock_other hh _ fun e2 => ?_⟩) j ⟨hke, RepM.move (RepM.plain hxt) hmv (fun _ h => h) (Where.upto_refl _ _) (by rw [fpM_plain hxt.no_own]; simp)⟩
      exact (hsub.2 b' (mem_fpE hx he hb')).2 (by rw [e2]; exact h1)
    · intro m hm
      rcases List.mem_or_eq_of_mem_set hm with hm | rfl
      · exact hbn m hm
      · exact hbn m0 (List.mem_of_getElem? h3)
    · have h9 : (ms.map (·.born))[j]? = some m0.born := by simp [h3]
      have h10 : (ms.map (·.born)).set j m1.born = ms.map (·.born) := (List.getElem?_eq_some_iff.1 h9).2 ▸ List.set_getElem_self _
      exact ⟨by rw [List.map_set, h10]; exact hnd, by rw [List.length_set]; exact hst.1, by rw [List.map_set, h10, List.length_set]; exact hst.2⟩
    · rw [fpE_set h3 hj (by rw [hold]; exact fpM_plain hxt.no_own)]
      exact hsub
end
end Go.Exe
/-
  Yp: a nil slice inside a row's element is an empty slice.
-/
namespace Go.Exe
open Go.RowKit
inductive ALe : AV → AV → Prop where
  | rfl {x : AV} : ALe x x
  | nil {e : TypeId} : ALe (.flat (.slice none 0 0)) (.sl e [])
section
variable {P : Program} {ok : Nat → Prop} {w : World}
theorem ALe.rep {v : Value} {x y : AV} (h : ALe x y) (hv : RepA P ok w v x) : RepA P ok w v y := by
  cases h with
  | rfl => exact hv
  | nil => rw [RepA.flat_eq hv]; exact RepA.nil
theorem RepA.slLe {v : Value} {e : TypeId} {xs ys : List (List AV)} (h : RepA P ok w v (.sl e xs)) (hr : Al (Al ALe) xs ys) : RepA P ok w v (.sl e ys) := by
  cases h with
  | nil =>
    have : ys = [] := List.eq_nil_of_length_eq_zero (by rw [← hr.1]; rfl)
    subst this
    exact .nil
  | sl us hi hs hn hc hm hb hl hcell hok hr2 =>
    refine .sl us hi hs (by rw [← hr.1]; exact hn) hc hm hb (fun j y hy => ?_) hcell hok (fun j i y b hy hb2 => ?_)
    · obtain ⟨x, hx, h1⟩ := hr.get_right hy
      rw [← h1.1]; exact hl j x hx
    · obtain ⟨x, hx, h1⟩ := hr.get_right hy
      obtain ⟨a, ha, h2⟩ := h1.get_right hb2
      exact h2.rep (hr2 j i x a hx ha)
end
theorem PCall.slLe {P : Program} {f : Nat} {args : List TV} {e : TypeId} {xs ys : List (List AV)} (h : PCall P f args (.c (.im (.sl e xs)))) (hr : Al (Al ALe) xs ys) : PCall P f args (.c (.im (.sl e ys))) :=
  ⟨h.1, fun ok w vs hvs => (h.2 ok w vs hvs).mono fun _ w' ⟨v, h1, h2, h3⟩ => ⟨v, h1, h2, RepA.slLe h3 hr⟩⟩
/-! ### a box whose cells own rows -/
end Go.Exe
namespace Go.Exe
open Go.RowKit

/-! ### slices.SortFunc with a function value that has captured something, told up to a choice -/
structure SortD (P : Program) (f k : Nat) : Prop where
  ok : CallOk P f
  nil0 : ∀ (p : Option Addr) (cap : Nat) (fv : Value) (w : World), Calls P f #[.slice p 0 cap, fv] w fun e w' => e = .returned (.tuple #[]) ∧ w' = w
  full : ∀ (enc : Nat → List Value) (cf : Nat → Nat → Int) (g : Nat) (cb : Array Value) (blk cap n : Nat) (w : World), (∀ x, (enc x).length = k) → (∀ x, ∀ v ∈ enc x, v.oneCell' = true) → Sort.SWO (fun x y : Nat => decide (cf x y < 0)) → (∀ args w, (callFunc g args).run P w = .ok (.enter g args) w) →
    (∀ (m : Nat) (os : Array Go.Obj) (d : Array Nat), d.size = n → ∀ x y : Nat, Calls P g (#[.agg (enc x).toArray, .agg (enc y).toArray] ++ cb) (sortW enc k w blk m d os) fun e w' => e = .returned (.int .i64 (cf x y)) ∧ ∃ q os', w' = Sort.grow ((sortW enc k w blk m d os).drewN q) os') →
    Sort.HoldsK enc k w blk 0 (Array.range n) → blk < w.heap.size → n < 4611686018427387904 →
    Calls P f #[.slice (some ⟨blk, 0, none⟩) n cap, .func (.func g) #[] cb] w fun e w' => e = .returned (.tuple #[]) ∧ ∃ d' m os, Sort.PermIn 0 n (Array.range n) d' ∧ Sort.SortedIn (fun x y : Nat => decide (cf x y < 0)) 0 n d' ∧ w' = sortW enc k w blk m d' os
section
variable {C : Ctx} {s : St} {a : Act} {w : World} {L : Where}
/-! ### ghost moves inside a region -/
theorem OpE.fits {o : Oper} {s' : St} {K : St → Prop} (hf : Fits C s s') (h : OpE C o s' K) : OpE C o s K := fun a w hs next Q hn => h a w (hf a w hs) next Q hn
theorem RunE.fits {o : Oper} {l : List Oper} {s' : St} {K : St → Prop} (hf : Fits C s s') (h : RunE C (o :: l) s' K) : RunE C (o :: l) s K := ⟨h.1, OpE.fits hf h.2⟩
/-- A variable of frozen cells that nobody writes any more, told as frozen cells. -/
theorem Fits.seeP {s' : St} (i k : Nat) {t : TypeId} {cs : List Cell} {xs : List AV} (hi : s.tv i = .c (.ptr k 0)) (hk : s.ob k = some (.box t cs)) (hc : unimL cs = some xs) (h : Fits C { s.delO k with t := ins i (.c (.ip xs)) (s.delO k).t } s') : Fits C s s' := by
  intro a w ⟨L, hs⟩
  obtain ⟨hku, b, vs, hbl, hh, hal, hone⟩ := hs.ob k _ hk
  have hcs := unimL_spec hc
  subst hcs
  have hok : ∀ c, okOf C s L c → okOf C (s.delO k) L c := fun c hc => ⟨hc.1, fun j o1 hj ho1 => by
    rw [St.ob_delO] at hj
    split at hj
    · cases hj
    · exact hc.2 j o1 hj ho1⟩
  have hokb : okOf C (s.delO k) L b := by
    have hhas : L.has k b := .inl hbl
    refine ⟨fun hlt => (hs.own k _ b hk (Eq.refl _) hhas).2.elim (fun h => absurd hlt (Nat.not_lt.2 h)) .inr, fun j o1 hj ho1 he => ?_⟩
    rw [St.ob_delO] at hj
    split at hj
    · cases hj
    · rename_i e1
      exact e1 (hs.inj _ _ _ o1 b hk hj (Eq.refl _) ho1 hhas he)
  have hv := hs.tm i
  rw [hi] at hv
  obtain ⟨_, b', hbl', hv⟩ := hv
  obtain rfl : b = b' := Option.some.inj (hbl.symm.trans hbl')
  have hd := hs.del k
  refine h a w ⟨L, hd.os, hd.tape, hd.output, hd.size, hd.kept, hd.nt, fun j => ?_, hd.ob, hd.inj, hd.own, hd.defers, hd.pin⟩
  show RepT C.P (okOf C (s.delO k) L) w (s.delO k).used L _ ((lk (ins i (.c (.ip xs)) (s.delO k).t) j).getD (.c .dead))
  rw [lk_ins]
  by_cases e1 : i = j
  · subst e1
    rw [if_pos (Eq.refl _)]
    refine ⟨⟨b, 0, none⟩, vs, hv, fun j u hu => ?_, ⟨by simpa [imL] using hal.1, fun j u x hu hx => ?_⟩, fun _ => hokb⟩
    · rw [add_lit, cell_of_block hh, Nat.zero_add]
      simpa using hu
    · have := hal.2 j u (.im x) hu (by simp [imL, hx])
      exact RepA.mono this fun b hb _ => hok b hb
  · rw [if_neg e1]; exact hd.tm j
end
end Go.Exe
/-
  Yr: function values of frozen pointers, and of frozen pointers together with variables of one's own.
-/
namespace Go.Exe
open Go.RowKit
section
variable {C : Ctx} {s : St}
def pipsOf (s : St) : List Operand → Option (List AV)
  | [] => some []
  | y :: r => match s.ev y with
    | .c (.ip xs) => (match pipsOf s r with | some l => some (.pt xs :: l) | none => none)
    | .c (.im (.pt xs)) => (match pipsOf s r with | some l => some (.pt xs :: l) | none => none)
    | _ => none
theorem RepC.ip_pt {P : Program} {ok : Nat → Prop} {w : World} {U : Nat → Prop} {L : Where} {v : Value} {xs : List AV} (h : RepC P ok w U L v (.ip xs)) : RepA P ok w v (.pt xs) := by
  obtain ⟨ad, us, rfl, hc, hal, hok⟩ := h
  refine .pt (fun i => us.getD i undef) (fun i hi => ?_) hok (fun i y hy => ?_)
  · have : i < us.length := by rw [hal.1]; exact hi
    have h2 := hc i us[i] (List.getElem?_eq_getElem this)
    rw [h2]; simp [List.getD_eq_getElem?_getD, List.getElem?_eq_getElem this]
  · obtain ⟨v, hv, hr⟩ := hal.get_right hy
    simp only [List.getD_eq_getElem?_getD, hv, Option.getD_some]
    exact hr
theorem Sim.pips {a : Act} {w : World} {L : Where} (h : Sim C s a w L) : ∀ {ys : List Operand} {l : List AV}, pipsOf s ys = some l → Al (RepA C.P (okOf C s L) w) (ys.map a.eval) l
  | [], l, hl => by simp [pipsOf] at hl; subst hl; exact Al.nil
  | y :: r, l, hl => by
    simp only [pipsOf] at hl
    split at hl
    · rename_i xs hy
      split at hl
      · rename_i l' hl'
        cases hl
        have hv := h.ev y
        rw [hy] at hv
        exact Al.cons (RepC.ip_pt (U := s.used) (L := L) hv) (h.pips hl')
      · cases hl
    · rename_i xs hy
      split at hl
      · rename_i l' hl'
        cases hl
        have hv := h.ev y
        rw [hy] at hv
        exact Al.cons hv (h.pips hl')
      · cases hl
    · cases hl
/-- A function value of frozen pointers. -/
theorem OpE.makeFnPs {o : Oper} {K : St → Prop} {f : Nat} {ys : Array Operand} {l : List AV} (ho : o.op = .makeFunc (.func f) #[] ys) (hy : pipsOf s ys.toList = some l) (hd : dstOk o.dst s.nt = true) (h : K (s.put o.dst (.c (.im (.fn f l))))) : OpE C o s K := by
  intro a w ⟨L, hs⟩ next Q hnext
  refine OW.value (v := .func (.func f) #[] (ys.map a.eval)) (w' := w) (by unfold execOp; simp [ho, Instr.makeFunc]) (hnext _ _ _ h ⟨L, hs.put o.dst (dstOk_spec hd) ?_⟩)
  show RepA C.P (okOf C s L) w _ _
  have hal := hs.pips hy
  have e : ys.map a.eval = ((List.range l.length).map fun i => (ys.toList.map a.eval).getD i undef).toArray := by
    apply Array.toList_inj.1
    rw [Array.toList_map, List.toList_toArray]
    apply List.ext_getElem?
    intro i
    have hl := hal.1
    rw [List.length_map] at hl
    by_cases hi : i < l.length
    · have hi2 : i < (ys.toList.map a.eval).length := by rw [List.length_map]; omega
      rw [List.getElem?_map, List.getElem?_map, List.getElem?_range hi, Option.map_some, List.getD_eq_getElem?_getD, List.getElem?_map, List.getElem?_eq_getElem (l := ys.toList) (by omega)]
      rfl
    · rw [List.getElem?_eq_none (by rw [List.length_map]; omega), List.getElem?_eq_none (by rw [List.length_map, List.length_range]; omega)]
  rw [e]
  refine RepA.fn _ fun i z hz => ?_
  obtain ⟨v, hv, hr⟩ := hal.get_right hz
  simp only [List.getD_eq_getElem?_getD, hv, Option.getD_some]
  exact hr
/-- A function value of frozen pointers and of variables of one's own. -/
theorem OpE.makeFnQ {o : Oper} {K : St → Prop} {f : Nat} {ys : Array Operand} {y1 y2 : List Operand} {l : List AV} {caps : List (Nat × Nat)} (ho : o.op = .makeFunc (.func f) #[] ys) (hys : ys.toList = y1 ++ y2) (hy : pipsOf s y1 = some l) (hc : capsOf s y2 = some caps) (hd : dstOk o.dst s.nt = true) (h : K (s.put o.dst (.c (.clq f l caps)))) : OpE C o s K := by
  intro a w ⟨L, hs⟩ next Q hnext
  refine OW.value (v := .func (.func f) #[] (ys.map a.eval)) (w' := w) (by unfold execOp; simp [ho, Instr.makeFunc]) (hnext _ _ _ h ⟨L, hs.put o.dst (dstOk_spec hd) ?_⟩)
  refine ⟨y1.map a.eval, y2.map a.eval, ?_, hs.pips hy, hs.caps hc⟩
  rw [← List.map_append, ← hys, ← Array.toList_map, Array.toArray_toList]
end
theorem GCall.toE {P : Program} {f np : Nat} {s0 s1 : St} (h : GCall P f np s0 s1) : GCallE P f np s0 (fun _ : Unit => True) (fun _ => s1) :=
  ⟨h.1, fun C h1 h2 vs w L hs => (h.2 C h1 h2 vs w L hs).mono fun e w' ⟨v, L', he, hs'⟩ => ⟨(), v, L', trivial, he, hs'⟩⟩
end Go.Exe
/-
  Ys: a call without arguments that hands back things of its own, as many as it likes.
-/
namespace Go.Exe
open Go.RowKit
section
variable {C : Ctx} {s : St}
def shR (base : Nat) : Nat → Ren
  | 0 => []
  | n + 1 => (n, base + n) :: shR base n
def shH (r : Ren) (base : Nat) : List (Nat × Obj) → List (Nat × Obj)
  | [] => []
  | p :: l => (base + p.1, (rnO r p.2).getD p.2) :: shH r base l
def exN (base : Nat) : Nat → List Nat
  | 0 => []
  | n + 1 => (base + n) :: exN base n
def St.add (s : St) (base nx1 : Nat) (h1 : List (Nat × Obj)) : St := { s with h := shH (shR base nx1) base h1 ++ s.h, ex := exN base nx1 ++ s.ex }
theorem add_def (t h nx ex nt base nx1 h1) : St.add ⟨t, h, nx, ex, nt⟩ base nx1 h1 = ⟨t, shH (shR base nx1) base h1 ++ h, nx, exN base nx1 ++ ex, nt⟩ := (rfl)
attribute [go_sem] add_def shH shR exN
end
end Go.Exe
/-
  Yt: a call that only reads what a variable and the map behind it hold: shown for frozen things, used for owned ones.
-/
namespace Go.Exe
open Go.RowKit
end Go.Exe
/-
  Yu: a call that is handed variables of the caller's own, all pinned, and hands back new things besides, as many as it likes.
-/
namespace Go.Exe
open Go.RowKit
section
variable {C : Ctx} {s : St}
def tgM (r : List Nat) (base i : Nat) : Nat := (lk (idx 0 r) i).getD (base + i)
def rnM (r : List Nat) (base : Nat) : Nat → Ren
  | 0 => []
  | n + 1 => (n, tgM r base n) :: rnM r base n
def shM (τ : Ren) (r : List Nat) (base : Nat) : List (Nat × Obj) → List (Nat × Obj)
  | [] => []
  | p :: l => (tgM r base p.1, (rnO τ p.2).getD p.2) :: shM τ r base l
def St.addM (s : St) (r : List Nat) (base nx1 : Nat) (h1 : List (Nat × Obj)) : St := { s with h := shM (rnM r base nx1) r base h1 ++ s.h, ex := exN base nx1 ++ s.ex }
theorem addM_def (t h nx ex nt r base nx1 h1) : St.addM ⟨t, h, nx, ex, nt⟩ r base nx1 h1 = ⟨t, shM (rnM r base nx1) r base h1 ++ h, nx, exN base nx1 ++ ex, nt⟩ := (rfl)
attribute [go_sem] addM_def shM rnM tgM
end
end Go.Exe
/-
  Yv: what queues ask: a slice with three indexes of a list that nobody writes (its capacity is its length), and what is done with it; append to a part of an own row that reaches its end.
-/
namespace Go.Exe
open Go.RowKit
theorem RepA.recap {P : Program} {ok : Nat → Prop} {w : World} {a : Option Addr} {n c c' : Nat} {e : TypeId} {xs : List (List AV)} (h : RepA P ok w (.slice a n c) (.sl e xs)) (h1 : n ≤ c') (h2 : c' ≤ maxLen) (h3 : a ≠ none) : RepA P ok w (.slice a n c') (.sl e xs) := by
  cases h with
  | nil => exact absurd rfl h3
  | sl us hi hs hn hc hm hb hl hcell hok hr => exact .sl us hi hs hn h1 h2 hb hl hcell hok hr
section
variable {C : Ctx} {s : St}
theorem AX.cut3 {o : Oper} {k sz bs : Nat} {e : TypeId} {K : List Key → List Upd → Prop} {y lo hi mx : Operand} {t : TypeId} {xs : List (List AV)} {k1 k2 k3 : IntKind} {i j : Int} (ho : o.op = .slice t y (some lo) (some hi) (some mx)) (ht : EL C.P t = some e) (hi' : EInfo C.P e = some (sz, bs)) (hs0 : 0 < sz)
    (hy : s.ev y = .c (.im (.sl e xs))) (hl : s.ev lo = .c (.im (.flat (.int k1 i)))) (hh : s.ev hi = .c (.im (.flat (.int k2 j)))) (hm : s.ev mx = .c (.im (.flat (.int k3 j)))) (h0 : 0 ≤ i) (h1 : i < j) (h2 : j ≤ (xs.length : Int)) (hd : dstOk o.dst s.nt = true)
    (h : K (opK y ++ opK lo ++ opK hi ++ opK mx) (.new k (.fix e ((xs.take j.toNat).drop i.toNat)) :: dU o.dst (.c (.ref k)))) : AX C k o s K := by
  refine ⟨_, _, fun s1 hag hnt hku => ?_, fun u hu j hj => ?_, h⟩
  · refine (sound_new (k := k) ?_).1
    have e1 : s1.ev y = s.ev y := agree_ev hag (by intro x hx; simp [hx])
    have e2 : s1.ev lo = s.ev lo := agree_ev hag (by intro x hx; simp [hx])
    have e3 : s1.ev hi = s.ev hi := agree_ev hag (by intro x hx; simp [hx])
    have e4 : s1.ev mx = s.ev mx := agree_ev hag (by intro x hx; simp [hx])
    refine opOk_val (by rw [show (s1.new k (.fix e ((xs.take j.toNat).drop i.toNat))).nt = s1.nt from rfl, hnt]; exact dstOk_spec hd) fun a w L hS => ?_
    have hv := hS.ev y
    rw [e1, hy] at hv
    have vl := ev_flat hS (e2.trans hl)
    have vh := ev_flat hS (e3.trans hh)
    have vm := ev_flat hS (e4.trans hm)
    have hv : RepA C.P (okOf C s1 L) w (a.eval y) (.sl e xs) := hv
    obtain ⟨ad, n, c, hev, hn, hnc, hcm, hrest⟩ := hv.openSl
    obtain ⟨ie, hie, hsz, _⟩ := EInfo_spec hi'
    have hlen : ((xs.take j.toNat).drop i.toNat).length = j.toNat - i.toNat := by rw [List.length_drop, List.length_take]; omega
    rcases hrest with ⟨_, h3, _⟩ | ⟨g, sz', bs', rfl, uss, hie', hs, hb, hul, hcell, hok, hal⟩
    · omega
    rw [hi'] at hie'
    cases hie'
    refine ⟨.slice (some (g.add (i.toNat * sz))) (j.toNat - i.toNat) (j.toNat - i.toNat), w, L.set k none (.slice (some (g.add (i.toNat * sz))) (j.toNat - i.toNat) (j.toNat - i.toNat)), ?_, ?_, ?_⟩
    · unfold execOp
      have b1 : (Instr.sliceBound (.int k3 j) c .slice3Acap).run C.P w = .ok j.toNat w := run_bound (by omega) (by omega)
      have b2 : (Instr.sliceBound (.int k2 j) j.toNat .slice3B).run C.P w = .ok j.toNat w := run_bound (by omega) (by omega)
      have b3 : (Instr.sliceBound (.int k1 i) j.toNat .slice3C).run C.P w = .ok i.toNat w := run_bound (by omega) (by omega)
      have hne : ¬ j.toNat = i.toNat := by omega
      simp [ho, hev, vl, vh, vm, Instr.sliceAt, Instr.slice, Instr.sliceBounds, Sem.run_bind, run_underlying (EL_spec ht), b1, b2, b3, sizeOf, typeInfo, hie, hsz, hne]
    · refine hS.new (w' := w) k hku _ _ rfl rfl ⟨rfl, Nat.le_refl _⟩ (Nat.le_refl _) (fun b hb => rfl) none (fun x hx => by cases hx) ?_
      refine ⟨g.add (i.toNat * sz), by rw [hlen]; simp [Where.set], ?_⟩
      have hul' : ∀ u ∈ (uss.take j.toNat).drop i.toNat, u.length = sz := fun u hu => hul u (List.mem_of_mem_take (List.mem_of_mem_drop hu))
      show RepA C.P _ w ((L.set k none (.slice (some (g.add (i.toNat * sz))) (j.toNat - i.toNat) (j.toNat - i.toNat))).hv k) _
      have hhv : (L.set k none (.slice (some (g.add (i.toNat * sz))) (j.toNat - i.toNat) (j.toNat - i.toNat))).hv k = .slice (some (g.add (i.toNat * sz))) (j.toNat - i.toNat) (j.toNat - i.toNat) := by simp [Where.set]
      rw [hhv]
      obtain ⟨a2, c2, q1, q2, q3⟩ := cut_im hi' hv rfl (lo := i.toNat) (hi := j.toNat) (by omega) (by omega)
      rw [hev] at q1
      cases q1
      rw [if_neg (by omega)] at q3
      refine (RepA.recap q3 (Nat.le_refl _) (by omega) (by simp)).mono fun b hb hlt => ⟨hb.1, fun q o' hq ho' => ?_⟩
      rw [St.ob_new] at hq
      split at hq
      · cases hq; cases ho'
      · rename_i e5
        rw [Where.set_has_ne _ _ _ _ _ (fun e6 => e5 e6.symm)]
        exact hb.2 q o' hq ho'
    · exact ⟨(s1.used_new k _ k).2 (.inl rfl), by simp [Where.set], _, _, _, rfl⟩
  · rcases List.mem_cons.1 hu with rfl | hu
    · exact hj.symm
    · exact (given_dU u hu j hj).elim
/-- What the list with the fixed capacity is. -/
theorem fix_ev {s1 : St} {a : Act} {w : World} {L : Where} (hS : Sim C s1 a w L) {y : Operand} {k0 e : Nat} {xs : List (List AV)} (hy : s1.ev y = .c (.ref k0)) (hb : s1.ob k0 = some (.fix e xs)) : ∃ g, a.eval y = .slice (some g) xs.length xs.length ∧ RepA C.P (okOf C s1 L) w (a.eval y) (.sl e xs) := by
  have hv := hS.ev y
  rw [hy] at hv
  obtain ⟨_, hv1, _⟩ := hv
  obtain ⟨_, g, h1, h2⟩ := hS.ob k0 _ hb
  exact ⟨g, hv1.trans h1, by rw [hv1]; exact h2⟩
theorem AX.lenFix {o : Oper} {k k0 : Nat} {e : TypeId} {K : List Key → List Upd → Prop} {y : Operand} {t : TypeId} {xs : List (List AV)} (ho : o.op = .call { callee := .builtin .len, args := #[y], argTypes := #[t] }) (ht : EL C.P t = some e) (hy : s.ev y = .c (.ref k0)) (hb : s.ob k0 = some (.fix e xs)) (hd : dstOk o.dst s.nt = true)
    (h : K (opK y ++ [.h k0]) (dU o.dst (ft (.int .i64 (xs.length : Int))))) : AX C k o s K := by
  refine ⟨_, _, fun s1 hag hnt hku => ?_, fun u hu j hj => (given_dU u hu j hj).elim, h⟩
  rw [ups_dU]
  have e1 : s1.ev y = s.ev y := agree_ev hag (by intro x hx; simp [hx])
  have e3 : s1.ob k0 = some (.fix e xs) := by rw [agree_ob hag (by simp)]; exact hb
  refine opOk_flat rfl (by rw [hnt]; exact dstOk_spec hd) fun a w L hS => ?_
  obtain ⟨g, h1, _⟩ := fix_ev hS (e1.trans hy) e3
  unfold execOp
  simp [ho, resolve, invoke, builtin, Builtin.len_, h1, Sem.run_bind, run_underlying (EL_spec ht), goInt]
theorem AX.idxFix {o : Oper} {k k0 sz bs : Nat} {e : TypeId} {K : List Key → List Upd → Prop} {y z : Operand} {t : TypeId} {xs : List (List AV)} {x : List AV} {kk : IntKind} {i : Int} (ho : o.op = .indexAddr t y z) (ht : EL C.P t = some e) (hi : EInfo C.P e = some (sz, bs)) (hy : s.ev y = .c (.ref k0)) (hb : s.ob k0 = some (.fix e xs)) (hz : s.ev z = .c (.im (.flat (.int kk i)))) (h0 : 0 ≤ i) (hx : xs[i.toNat]? = some x) (hd : dstOk o.dst s.nt = true)
    (h : K (opK y ++ opK z ++ [.h k0]) (dU o.dst (.c (.ip x)))) : AX C k o s K := by
  refine ⟨_, _, fun s1 hag hnt hku => ?_, fun u hu j hj => (given_dU u hu j hj).elim, h⟩
  rw [ups_dU]
  have e1 : s1.ev y = s.ev y := agree_ev hag (by intro x hx; simp [hx])
  have e2 : s1.ev z = s.ev z := agree_ev hag (by intro x hx; simp [hx])
  have e3 : s1.ob k0 = some (.fix e xs) := by rw [agree_ob hag (by simp)]; exact hb
  refine opOk_same (by rw [hnt]; exact dstOk_spec hd) fun a w L hS => ?_
  obtain ⟨g, h1, h2⟩ := fix_ev hS (e1.trans hy) e3
  obtain ⟨ad, n, cap, he, hj, hr⟩ := elem_im (U := s1.used) (L := L) hi h2 hx
  obtain ⟨ie, hie, hsz, _⟩ := EInfo_spec hi
  refine ⟨_, ?_, hr⟩
  unfold execOp
  simp [ho, he, ev_flat hS (e2.trans hz), Instr.indexAt, asIntOf, run_underlying (EL_spec ht), Sem.run_bind, sizeOf, typeInfo, hie, hsz, h0, show i < (n : Int) by omega]
end
/-! ### append to a part of an own row that reaches its end -/
section
variable {P : Program} {w : World}
theorem run_append_roomV (t ty e : TypeId) (i : TypeInfo) (ht : P.underlying t = some (.slice e)) (hi : P.info? e = some i)
    (g off sLen sCap : Nat) (cur : Array Value) (hg : w.heap[g]? = some (.cells cur e (0, 0)))
    (a : Addr) (m c : Nat) (news : List Value) (hl : news.length = m * i.size) (hnews : ∀ j u, news[j]? = some u → w.cell? (a.add j) = some u) (h1 : ∀ u ∈ news, u.oneCell' = true)
    (hroom : sLen + m ≤ sCap) (hfit : off + sLen * i.size + news.length ≤ cur.size) :
    (Builtin.append_ #[t, t] ty #[.slice (some ⟨g, off, none⟩) sLen sCap, .slice (some a) m c]).run P w =
      .ok (.slice (some ⟨g, off, none⟩) (sLen + m) sCap) (w.setRow g (cur.toList.take (off + sLen * i.size) ++ news ++ cur.toList.drop (off + sLen * i.size + news.length)).toArray) := by
  have hf := run_firstCells_some (P := P) (w := w) i.size m a m c news hl hnews
  have hst := run_storeCells_at P g (off + sLen * i.size) e news 0 cur w hg (by simpa using hfit) h1
  simp only [Nat.add_zero] at hst
  simp [Builtin.append_, run_underlying ht, sizeOf, typeInfo, hi, Builtin.lenOf, hroom, hf, add_lit, hst]
/-- The new row behind a growing append. -/
theorem grown_row {t ty e : TypeId} {i : TypeInfo} {z : Value} (ht : P.underlying t = some (.slice e)) (hi : P.info? e = some i) (hz : i.zero = some z) (hzs : z.cells.size = i.size) (hs : 0 < i.size)
    {b : Addr} {n cp : Nat} {olds : List Value} (hlo : olds.length = n * i.size) (holds : ∀ j v, olds[j]? = some v → w.cell? (b.add j) = some v)
    {a : Addr} {m c : Nat} {news : List Value} (hl : news.length = m * i.size) (hnews : ∀ j v, news[j]? = some v → w.cell? (a.add j) = some v) (hg : cp < n + m) (hmx : n + m ≤ maxLen) (hb : (n + m) * i.bytes ≤ 140737488355328) :
    ∃ v' w', (Builtin.append_ #[t, t] ty #[.slice (some b) n cp, .slice (some a) m c]).run P w = .ok v' w' ∧ w'.ownsRow 0 e i.size v' (n + m) (olds ++ news) ∧ (∀ row, w.grownBy w' row) ∧ v'.ownBlock = some w.heap.size ∧ w.heap.size < w'.heap.size ∧ w.drawn ≤ w'.drawn ∧ ∃ g c', v' = .slice (some ⟨g, 0, none⟩) (n + m) c' := by
  have hlen : (olds ++ news).length = (n + m) * i.size := by rw [List.length_append, hlo, hl, Nat.add_mul]
  have hge := grownCap_ge w (n + m) cp e
  have hcm : grownCap w (n + m) cp e ≤ maxLen := grownCap_le_maxLen w (n + m) cp e hmx
  refine ⟨_, _, run_append_grow (P := P) (w := w) t ty e i z ht hi hz b n cp olds hlo holds a m c news hl hnews hg (by simp only [maxLen] at hmx; omega) (growslice_fits hg hb), ⟨hlen, .inr ⟨w.heap.size, _, _, rfl, Nat.zero_le _, heap_alloc_new w.drew _, hge, hcm, ?_, ?_⟩⟩, fun row => ⟨rfl, rfl, rfl, by simp, fun k hk _ => heap_alloc_old w.drew _ k hk⟩, rfl, by simp, Nat.le_succ _, _, _, rfl⟩
  · simp only [Array.size_append, List.size_toArray, size_zeroCells, hzs, hlo, hl, ← Nat.add_mul]
    congr 1
    omega
  · simp only [Array.toList_append, List.append_assoc]
    rw [← List.append_assoc, ← hlen]
    exact List.take_left
end
theorem al_imR {P : Program} {ok : Nat → Prop} {w : World} {U : Nat → Prop} {L : Where} {uss : List (List Value)} {xs : List (List AV)} (h : Al (Al (RepA P ok w)) uss xs) : Al (Al (RepC P ok w U L)) uss (imR xs) := by
  refine ⟨by simp [imR, h.1], fun j u x hu hx => ?_⟩
  simp only [imR, List.getElem?_map, Option.map_eq_some_iff] at hx
  obtain ⟨x0, hx0, rfl⟩ := hx
  have h2 := h.2 j u x0 hu hx0
  refine ⟨by simp [imL, h2.1], fun i v y hv hy => ?_⟩
  simp only [imL, List.getElem?_map, Option.map_eq_some_iff] at hy
  obtain ⟨y0, hy0, rfl⟩ := hy
  exact h2.2 i v y0 hv hy0
section
variable {C : Ctx} {s : St}
theorem OpE.appV {o : Oper} (k : Nat) {K : St → Prop} {y z : Operand} {t e : TypeId} {sz bs : Nat} {zs : List Value} {r lo n : Nat} {xs ys : List (List Cell)} {c : Cell} (ho : o.op = .call { callee := .builtin .append, args := #[y, z], argTypes := #[t, t] }) (ht : EL C.P t = some e) (hi : EInfo C.P e = some (sz, bs)) (hs0 : 0 < sz) (hbs : 0 < bs) (hz : ZV C.P e = some zs) (hzl : zs.length = sz)
    (hy : s.ev y = .c (.vw r sz lo n)) (hr : s.ob r = some (.row e xs)) (hn0 : 0 < n) (hln : lo + n = xs.length) (hx : s.ev z = .c c) (hsrc : s.src e sz c = some ys) (hm : 0 < ys.length) (hb : (xs.length + ys.length) * bs ≤ 140737488355328) (hk : ¬ s.used k) (hd : dstOk o.dst s.nt = true)
    (h : ∀ pre : List (List Cell), (pre = xs.take lo ∨ pre = []) → K (((s.delO r).new k (.row e (pre ++ (xs.drop lo ++ ys)))).put o.dst (.c (.vw k sz pre.length (n + ys.length))))) : OpE C o s K := by
  intro a w ⟨L, hS⟩ next Q hnext
  have hv := hS.ev y
  rw [hy] at hv
  obtain ⟨hur, ad0, cp, hval, hnc, hcm, hnn, hb1⟩ := hv
  obtain ⟨g, hg1, rfl, N, hhv⟩ := hb1 hn0
  have hv2 := hS.ev z
  rw [hx] at hv2
  obtain ⟨ad, c2, he, hc2, hso⟩ := hS.src hi hsrc hv2
  obtain ⟨_, uss, sz', bs', hi', hs', hbb, ho', hblk, hul, hal, hone⟩ := hS.ob r _ hr
  rw [hi] at hi'
  cases hi'
  rcases hso with h0 | ⟨g2, vss, rfl, _, h2, h3, h4, h5⟩
  · omega
  have hnl : vss.flatten.length = ys.length * sz := by rw [flatten_length _ h2, h4.1]
  have hul0 : uss.length = xs.length := hal.1
  obtain ⟨ie, hie, his, hib⟩ := EInfo_spec hi
  obtain ⟨ie2, zv, hie2, hz0, hzs, _⟩ := ZV_spec hz
  obtain rfl : ie = ie2 := Option.some.inj (hie.symm.trans hie2)
  have hzl' : zv.cells.size = ie.size := by rw [← Array.length_toList, hzs, his]; exact hzl
  have hbig : xs.length + ys.length ≤ 140737488355328 := Nat.le_trans (Nat.le_mul_of_pos_right _ hbs) hb
  have hmx : n + ys.length ≤ maxLen := by unfold maxLen; omega
  -- the row's header
  rcases ho'.2 with ⟨e1, e2⟩ | ⟨g', cap, cur, e1, _, hgc, hNc, hcapm, hcs, htake⟩
  · omega
  rw [hhv] at e1
  cases e1
  have hrun : ∀ (v' : Value) (w' : World), (Builtin.append_ #[t, t] o.type #[a.eval y, a.eval z]).run C.P w = .ok v' w' → (execOp a.eval o).run C.P w = .ok (.value v') w' := fun v' w' hrun => by
    unfold execOp
    simp only [ho, resolve, invoke, builtin, Sem.run_bind, Sem.run_pure, Result.andThen_ok, List.map_toArray, List.map_cons, List.map_nil]
    rw [hrun]
    rfl
  have fin : ∀ (pre : List (List Cell)) (us : List (List Value)) (v1 : Value) (w1 : World) (b c' N' : Nat), (Builtin.append_ #[t, t] o.type #[a.eval y, a.eval z]).run C.P w = .ok (.slice (some ⟨b, pre.length * sz, none⟩) (n + ys.length) c') w1 →
      v1 = .slice (some ⟨b, 0, none⟩) N' (pre.length + c') → n + ys.length ≤ c' → c' ≤ maxLen → w1.ownsRow 0 e sz v1 (pre ++ (xs.drop lo ++ ys)).length (us ++ vss).flatten → (∀ u ∈ us, u.length = sz) → Al (Al (RepC C.P (okOf C s L) w s.used L)) us (pre ++ xs.drop lo) → (∀ u ∈ us.flatten, u.oneCell' = true) → (pre ++ (xs.drop lo ++ ys)).length * bs ≤ 140737488355328 →
      w.grownBy w1 (L.hv r).ownBlock → w.drawn ≤ w1.drawn → (v1.ownBlock = (L.hv r).ownBlock ∨ v1.ownBlock = some w.heap.size ∧ w.heap.size < w1.heap.size) → (pre = xs.take lo ∨ pre = []) → OW C.P o a w next Q := fun pre us v1 w1 b c' N' q0 q1 q2 q3 q4 q5 q6 q7 q8 q9 q10 q11 q12 => by
    have hkk : (L.set k v1.ownBlock v1).hv k = v1 := by simp [Where.set]
    have hkb : (L.set k v1.ownBlock v1).blk k = v1.ownBlock := by simp [Where.set]
    have hsim : Sim C ((s.delO r).new k (.row e (pre ++ (xs.drop lo ++ ys)))) a w1 (L.set k v1.ownBlock v1) := hS.regrow hr hk rfl q9 q10 q11 fun hmv hup => by
      refine ⟨us ++ vss, sz, bs, hi, hs0, q8, by rw [hkk]; exact q4, by rw [hkk, hkb], ?_, ?_, ?_⟩
      · intro u hu
        rcases List.mem_append.1 hu with hu | hu
        · exact q5 u hu
        · exact h2 u hu
      · have hal2 := q6.append h4
        rw [List.append_assoc] at hal2
        exact hal2.imp fun _ _ h => h.imp fun _ _ h => h.move hmv (fun j hj => (St.used_new _ _ _ _).2 (.inr hj)) hup
      · intro u hu
        rw [List.flatten_append] at hu
        rcases List.mem_append.1 hu with hu | hu
        · exact q7 u hu
        · exact h5 u hu
    refine OW.value (hrun _ _ q0) (hnext _ _ _ (h pre q12) ⟨_, hsim.put o.dst (dstOk_spec hd) ?_⟩)
    refine ⟨(St.used_new _ _ _ _).2 (.inl rfl), _, c', rfl, q2, q3, by simp, fun _ => ⟨b, by rw [hkb, q1]; rfl, rfl, N', by rw [hkk, q1]⟩⟩
  rw [hval, he] at *
  by_cases hroom : n + ys.length ≤ cp
  · have hfit2 : xs.length * ie.size + vss.flatten.length ≤ cur.size := by
      rw [hnl, hcs, his, ← Nat.add_mul]
      exact Nat.mul_le_mul_right _ (by omega)
    have hoff : lo * sz + n * ie.size = xs.length * ie.size := by rw [his, ← Nat.add_mul, hln]
    have r1 := run_append_roomV (P := C.P) (w := w) t o.type e ie (EL_spec ht) hie g (lo * sz) n cp cur hgc g2 ys.length c2 vss.flatten (by rw [hnl, his]) h3 h5 hroom (by rw [hoff]; exact hfit2)
    have r2 := run_append_room (P := C.P) w t o.type e ie (EL_spec ht) hie g xs.length (lo + cp) cur hgc g2 ys.length c2 vss.flatten (by rw [hnl, his]) h3 h5 (by omega) hfit2
    obtain ⟨v1, w1, q1, q2, q3, q4, q5⟩ := run_append_any (ty := o.type) (EL_spec ht) hi hs0 hz hzl ho' (m := ys.length) (ad := some g2) (c := c2) (.inr ⟨g2, rfl, hnl, h3⟩) h5 hb hbs
    rw [hhv, r2] at q1
    cases q1
    rw [hoff] at r1
    have htl : (xs.take lo).length = lo := by rw [List.length_take]; omega
    have hxx : xs.take lo ++ (xs.drop lo ++ ys) = xs ++ ys := by rw [← List.append_assoc, List.take_append_drop]
    refine fin (xs.take lo) uss _ _ g cp _ (by rw [htl]; exact r1) (by rw [htl]) hroom hcm (by rw [hxx, List.length_append, List.flatten_append]; exact q2) hul (by rw [List.take_append_drop]; exact hal) hone (by rw [hxx, List.length_append]; exact hb) q3 q5 (.inl (by rw [hhv]; rfl)) (.inl rfl)
  · have hul3 : ∀ u ∈ uss.drop lo, u.length = sz := fun u hu => hul u (List.mem_of_mem_drop hu)
    have hol : (uss.drop lo).flatten.length = n * sz := by rw [flatten_length _ hul3, List.length_drop, hul0]; congr 1; omega
    have htl : (uss.take lo).flatten.length = lo * sz := by rw [flatten_length _ (fun u hu => hul u (List.mem_of_mem_take hu)), List.length_take, hul0]; congr 1; omega
    have hcell : ∀ j u, (uss.drop lo).flatten[j]? = some u → w.cell? ((⟨g, lo * sz, none⟩ : Addr).add j) = some u := fun j u hj => by
      rw [add_lit]
      refine row_cells ho' (by rw [hhv]; rfl) _ u ?_
      rw [← List.take_append_drop lo uss, List.flatten_append, List.getElem?_append_right (by omega), htl, Nat.add_sub_cancel_left]
      exact hj
    have hb2 : (n + ys.length) * bs ≤ 140737488355328 := Nat.le_trans (Nat.mul_le_mul_right _ (by omega)) hb
    obtain ⟨v1, w1, q1, q2, q3, q4, q5, q6, gg, cc, rfl⟩ := grown_row (P := C.P) (w := w) (t := t) (ty := o.type) (e := e) (EL_spec ht) hie hz0 hzl' (by rw [his]; exact hs0) (b := ⟨g, lo * sz, none⟩) (n := n) (cp := cp) (olds := (uss.drop lo).flatten) (by rw [hol, his]) hcell (a := g2) (m := ys.length) (c := c2) (news := vss.flatten) (by rw [hnl, his]) h3 (by omega) hmx (by rw [hib]; exact hb2)
    rw [his] at q2
    have hxl : (xs.drop lo ++ ys).length = n + ys.length := by rw [List.length_append, List.length_drop]; omega
    have hrest := q2.2
    have hcc : n + ys.length ≤ cc ∧ cc ≤ maxLen := by
      rcases hrest with ⟨e1, _⟩ | ⟨g3, cap3, cur3, e1, _, _, k1, k2, _⟩
      · cases e1
      · cases e1; exact ⟨k1, k2⟩
    refine fin [] (uss.drop lo) _ w1 gg cc (n + ys.length) (by rw [List.length_nil, Nat.zero_mul]; exact q1) (by rw [List.length_nil, Nat.zero_add]) hcc.1 hcc.2 (by rw [List.nil_append, hxl, List.flatten_append]; exact q2) hul3 (by rw [List.nil_append]; exact hal.drop lo) (fun u hu => hone u ?_) (by rw [List.nil_append, hxl]; exact hb2) (q3 _) q6 (.inr ⟨q4, q5⟩) (.inr rfl)
    obtain ⟨l, hl1, hl2⟩ := List.mem_flatten.1 hu
    exact List.mem_flatten.2 ⟨l, List.mem_of_mem_drop hl1, hl2⟩
theorem AX.cutFix {o : Oper} {k k0 sz bs : Nat} {e : TypeId} {K : List Key → List Upd → Prop} {y lo : Operand} {t : TypeId} {xs : List (List AV)} {kk : IntKind} {i : Int} (ho : o.op = .slice t y (some lo) none none) (ht : EL C.P t = some e) (hi : EInfo C.P e = some (sz, bs)) (hs0 : 0 < sz) (hy : s.ev y = .c (.ref k0)) (hb : s.ob k0 = some (.fix e xs)) (hl : s.ev lo = .c (.im (.flat (.int kk i)))) (h0 : 0 ≤ i) (h1 : i ≤ (xs.length : Int)) (hd : dstOk o.dst s.nt = true)
    (h : K (opK y ++ opK lo ++ [.h k0]) (dU o.dst (.c (.im (.sl e (xs.drop i.toNat)))))) : AX C k o s K := by
  refine ⟨_, _, fun s1 hag hnt hku => ?_, fun u hu j hj => (given_dU u hu j hj).elim, h⟩
  rw [ups_dU]
  have e1 : s1.ev y = s.ev y := agree_ev hag (by intro x hx; simp [hx])
  have e2 : s1.ev lo = s.ev lo := agree_ev hag (by intro x hx; simp [hx])
  have e3 : s1.ob k0 = some (.fix e xs) := by rw [agree_ob hag (by simp)]; exact hb
  refine opOk_same (by rw [hnt]; exact dstOk_spec hd) fun a w L hS => ?_
  obtain ⟨g, q1, q2⟩ := fix_ev hS (e1.trans hy) e3
  obtain ⟨a2, c2, p1, p2, p3⟩ := cut_im hi q2 rfl (lo := i.toNat) (hi := xs.length) (by omega) (Nat.le_refl _)
  rw [q1] at p1
  cases p1
  rw [List.take_length] at p3
  obtain ⟨ie, hie, hsz, _⟩ := EInfo_spec hi
  have b3 : (Instr.sliceBound (.int kk i) xs.length .sliceB).run C.P w = .ok i.toNat w := run_bound h0 h1
  refine ⟨_, ?_, p3⟩
  unfold execOp
  simp [ho, q1, ev_flat hS (e2.trans hl), Instr.sliceAt, Instr.slice, Instr.sliceBounds, Sem.run_bind, run_underlying (EL_spec ht), b3, sizeOf, typeInfo, hie, hsz]
theorem OpE.appFix {o : Oper} (k : Nat) {K : St → Prop} {y z : Operand} {t e : TypeId} {sz bs : Nat} {zs : List Value} {k0 : Nat} {xs : List (List AV)} {ys : List (List Cell)} {c : Cell} (ho : o.op = .call { callee := .builtin .append, args := #[y, z], argTypes := #[t, t] }) (ht : EL C.P t = some e) (hi : EInfo C.P e = some (sz, bs)) (hs0 : 0 < sz) (hbs : 0 < bs) (hz : ZV C.P e = some zs) (hzl : zs.length = sz)
    (hy : s.ev y = .c (.ref k0)) (hr : s.ob k0 = some (.fix e xs)) (hx : s.ev z = .c c) (hsrc : s.src e sz c = some ys) (hm : 0 < ys.length) (hb : (xs.length + ys.length) * bs ≤ 140737488355328) (hk : ¬ s.used k) (hd : dstOk o.dst s.nt = true)
    (h : K ((s.new k (.row e (imR xs ++ ys))).put o.dst (.c (.ref k)))) : OpE C o s K := by
  intro a w ⟨L, hS⟩ next Q hnext
  obtain ⟨g, hval, hrep⟩ := fix_ev hS hy hr
  have hv2 := hS.ev z
  rw [hx] at hv2
  obtain ⟨ad, c2, he, hc2, hso⟩ := hS.src hi hsrc hv2
  rcases hso with h0 | ⟨g2, vss, rfl, _, h2, h3, h4, h5⟩
  · omega
  have hnl : vss.flatten.length = ys.length * sz := by rw [flatten_length _ h2, h4.1]
  obtain ⟨ie, hie, his, hib⟩ := EInfo_spec hi
  obtain ⟨ie2, zv, hie2, hz0, hzs, _⟩ := ZV_spec hz
  obtain rfl : ie = ie2 := Option.some.inj (hie.symm.trans hie2)
  have hzl' : zv.cells.size = ie.size := by rw [← Array.length_toList, hzs, his]; exact hzl
  have hbig : xs.length + ys.length ≤ 140737488355328 := Nat.le_trans (Nat.le_mul_of_pos_right _ hbs) hb
  have hmx : xs.length + ys.length ≤ maxLen := by unfold maxLen; omega
  obtain ⟨a1, n1, c1, p0, p1, p2, p3, hrest⟩ := hrep.openSl
  rw [hval] at p0
  cases p0
  rcases hrest with ⟨e1, _⟩ | ⟨g3, sz', bs', e1, uss, hi', hs', hbb, hul, hcell, hok, hal⟩
  · cases e1
  cases e1
  rw [hi] at hi'
  cases hi'
  have hol : uss.flatten.length = xs.length * sz := by rw [flatten_length _ hul, hal.1]
  obtain ⟨v1, w1, q1, q2, q3, q4, q5, q6, gg, cc, rfl⟩ := grown_row (P := C.P) (w := w) (t := t) (ty := o.type) (e := e) (EL_spec ht) hie hz0 hzl' (by rw [his]; exact hs0) (b := g) (n := xs.length) (cp := xs.length) (olds := uss.flatten) (by rw [hol, his]) hcell (a := g2) (m := ys.length) (c := c2) (news := vss.flatten) (by rw [hnl, his]) h3 (by omega) hmx (by rw [hib]; exact hb)
  rw [his] at q2
  have hrun : (execOp a.eval o).run C.P w = .ok (.value (.slice (some ⟨gg, 0, none⟩) (xs.length + ys.length) cc)) w1 := by
    unfold execOp
    simp only [ho, resolve, invoke, builtin, Sem.run_bind, Sem.run_pure, Result.andThen_ok, List.map_toArray, List.map_cons, List.map_nil, hval, he]
    rw [q1]
    rfl
  have hal2 : Al (Al (RepC C.P (okOf C s L) w s.used L)) (uss ++ vss) (imR xs ++ ys) := (al_imR hal).append h4
  have hsim := hS.newRow (k := k) (w' := w1) hk hi hs0 (xs := imR xs ++ ys) (by rw [List.length_append, imR_len]; exact hb) (q3 none).os (q3 none).tape ⟨(q3 none).output, q6⟩ (q3 none).size (fun b hlt => (q3 none).block b hlt (by simp)) (by rw [List.length_append, imR_len, List.flatten_append]; exact q2) (fun x hx => by rw [q4] at hx; cases hx; exact ⟨Nat.le_refl _, q5⟩) (fun u hu => (List.mem_append.1 hu).elim (hul u) (h2 u)) hal2 (fun u hu => by
    rw [List.flatten_append] at hu
    rcases List.mem_append.1 hu with hu | hu
    · obtain ⟨l, hl1, hl2⟩ := List.mem_flatten.1 hu
      obtain ⟨j, hj, rfl⟩ := List.mem_iff_getElem.1 hl1
      obtain ⟨i, hi3, rfl⟩ := List.mem_iff_getElem.1 hl2
      obtain ⟨x, hx1, hx2⟩ := hal.get_left (List.getElem?_eq_getElem hj)
      obtain ⟨y, hy1, hy2⟩ := hx2.get_left (List.getElem?_eq_getElem hi3)
      exact RepA.one hy2
    · exact h5 u hu)
  exact OW.value hrun (hnext _ _ _ h ⟨_, hsim.put o.dst (dstOk_spec hd) ⟨(St.used_new _ _ _ _).2 (.inl rfl), by simp [Where.set], _, _, _, rfl⟩⟩)
/-- A row of one's own, told as the part of it that is all. -/
theorem Fits.refVw {s' : St} (i r : Nat) {e : TypeId} {sz bs : Nat} {xs : List (List Cell)} (hi : s.tv i = .c (.ref r)) (hr : s.ob r = some (.row e xs)) (he : EInfo C.P e = some (sz, bs)) (h : Fits C { s with t := ins i (.c (.vw r sz 0 xs.length)) s.t } s') : Fits C s s' := by
  intro a w ⟨L, hs⟩
  refine h a w ⟨L, hs.os, hs.tape, hs.output, hs.size, hs.kept, hs.nt, fun j => ?_, hs.ob, hs.inj, hs.own, hs.defers, hs.pin⟩
  show RepT C.P (okOf C s L) w s.used L _ ((lk (ins i (.c (.vw r sz 0 xs.length)) s.t) j).getD (.c .dead))
  rw [lk_ins]
  by_cases e1 : i = j
  · subst e1
    rw [if_pos (Eq.refl _)]
    have hv := hs.tm i
    rw [hi] at hv
    obtain ⟨hu, hv1, _⟩ := hv
    obtain ⟨_, uss, sz', bs', hi', hs', hbb, ho', hblk, _⟩ := hs.ob r _ hr
    rw [he] at hi'
    cases hi'
    refine ⟨hu, ?_⟩
    rw [hv1]
    rcases ho'.2 with ⟨e2, e3⟩ | ⟨g, cap, cur, e2, _, _, k1, k2, _⟩
    · rw [e2, e3]
      exact ⟨none, 0, Eq.refl _, by omega, by unfold maxLen; omega, fun _ => Eq.refl _, fun hn => absurd hn (by omega)⟩
    · rw [e2] at hblk ⊢
      refine ⟨some ⟨g, 0, none⟩, cap, Eq.refl _, k1, k2, fun h => (by cases h), fun _ => ⟨g, hblk.symm, by rw [Nat.zero_mul], _, by rw [Nat.zero_add]⟩⟩
  · rw [if_neg e1]
    exact hs.tm j
/-! ### words -/
variable {o : Oper} {k : Nat} {K : List Key → List Upd → Prop}
theorem aIn {t kt e k0 : TypeId} {m z x : Operand} {es : List (Value × Bool × List Cell)} {key : Value} {y : Bool × List Cell} (h : K (opK m ++ opK z ++ opK x ++ [.h k0]) [.set k0 (.map kt (mput key y es))]) (ho : o.op = .insert t m z x := by exact rfl) (hd : o.dst = none := by exact rfl) (ht : MT C.P t = some (kt, e) := by exact aTM rfl) (KK : Go.Maps.Keyed C.P kt := by exact aKD rfl) (hm : s.ev m = .c (.mp k0) := by exact rfl) (hob : s.ob k0 = some (.map kt es) := by exact rfl) (hkey : keyV (s.ev z) = some key := by exact rfl) (hk : KeyOk C.P kt key := by assumption) (hx : toComp (s.ev x) = some y := by exact rfl) (hnn : noOwnO (mget key es) = true := by simp only [go_sem, reduceCtorEq]) : AX C k o s K := AX.insert ho hd ht KK hm hob hkey hk hx hnn h
theorem aXl {t : TypeId} {e k0 : Nat} {y : Operand} {xs : List (List AV)} (h : K (opK y ++ [.h k0]) (dU o.dst (ft (.int .i64 (xs.length : Int))))) (ho : o.op = .call { callee := .builtin .len, args := #[y], argTypes := #[t] } := by exact rfl) (hy : s.ev y = .c (.ref k0) := by exact rfl) (hb : s.ob k0 = some (.fix e xs) := by exact rfl) (ht : EL C.P t = some e := by exact aTL rfl) (hd : dstOk o.dst s.nt = true := by exact rfl) : AX C k o s K := AX.lenFix ho ht hy hb hd h
theorem aXi {t : TypeId} {e k0 sz bs : Nat} {y z : Operand} {xs : List (List AV)} {x : List AV} {kk : IntKind} {i : Int} (h : K (opK y ++ opK z ++ [.h k0]) (dU o.dst (.c (.ip x)))) (ho : o.op = .indexAddr t y z := by exact rfl) (hy : s.ev y = .c (.ref k0) := by exact rfl) (hb : s.ob k0 = some (.fix e xs) := by exact rfl) (hz : s.ev z = .c (.im (.flat (.int kk i))) := by exact rfl) (ht : EL C.P t = some e := by exact aTL rfl) (hi : EInfo C.P e = some (sz, bs) := by simp only [go_sem]; rfl) (h0 : 0 ≤ i := by first | decide | omega) (hx : xs[i.toNat]? = some x := by first | rfl | assumption) (hd : dstOk o.dst s.nt = true := by exact rfl) : AX C k o s K := AX.idxFix ho ht hi hy hb hz h0 hx hd h
end
theorem newO_def (t : List (Nat × TV)) (h : List (Nat × Obj)) (nx : Nat) (ex : List Nat) (nt k : Nat) (o : Obj) : St.new ⟨t, h, nx, ex, nt⟩ k o = ⟨t, ins k o h, nx, k :: ex, nt⟩ := rfl
theorem delO_def (t : List (Nat × TV)) (h : List (Nat × Obj)) (nx : Nat) (ex : List Nat) (nt k : Nat) : St.delO ⟨t, h, nx, ex, nt⟩ k = ⟨t, del k h, nx, ex, nt⟩ := rfl
attribute [go_sem] newO_def delO_def
end Go.Exe
