/-
  Xi: code: sequences, tests, blocks, loops; what a state may forget.
-/
import Derived.Test.YtegcmciglakicaaXh
namespace Go.Exe
open Go.RowKit
set_option linter.unusedVariables false
set_option linter.unusedSimpArgs false

/-- From abstract state s the code c ends as Q tells. -/
def W (C : Ctx) (c : Code) (s : St) (Q : Exit → St → Prop) : Prop := ∀ a w, S C s a w → c.wp C.P (fun e a' w' => ∃ s', S C s' a' w' ∧ Q e s') a w
def thenK (K : St → Prop) (Q : Exit → St → Prop) : Exit → St → Prop
  | .normal, s => K s
  | e, s => Q e s
def inB (id : Nat) (Q : Exit → St → Prop) : Exit → St → Prop
  | .exit i, s => if i = id then Q .normal s else Q (.exit i) s
  | e, s => Q e s
section rules
variable {C : Ctx} {s : St} {Q : Exit → St → Prop}
theorem W.mono {c : Code} {Q' : Exit → St → Prop} (h : W C c s Q) (k : ∀ e s, Q e s → Q' e s) : W C c s Q' := fun a w hs => wp_mono (h a w hs) fun e a' w' ⟨s', h1, h2⟩ => ⟨s', h1, k e s' h2⟩
theorem W.skip (h : Q .normal s) : W C .skip s Q := fun a w hs => wp_skip ⟨s, hs, h⟩
theorem W.exit {id : Nat} (h : Q (.exit id) s) : W C (.exit id) s Q := fun a w hs => wp_exit ⟨s, hs, h⟩
theorem W.ret (h : Q .ret s) : W C .ret s Q := fun a w hs => wp_ret ⟨s, hs, h⟩
theorem W.seq {x y : Code} (h : ∀ K : St → Prop, (∀ s', W C y s' Q → K s') → W C x s (thenK K Q)) : W C (.seq x y) s Q := fun a w hs => by
  refine wp_seq (wp_mono (h (fun s' => W C y s' Q) (fun _ h => h) a w hs) ?_)
  rintro e a' w' ⟨s', h1, h2⟩
  cases e with
  | normal => exact h2 a' w' h1
  | exit id => exact ⟨s', h1, h2⟩
  | goto l => exact ⟨s', h1, h2⟩
  | ret => exact ⟨s', h1, h2⟩
  | panic ch => exact ⟨s', h1, h2⟩
  | outgrown => exact ⟨s', h1, h2⟩
theorem W.cond {c : Operand} {x y : Code} {b : Bool} (hc : s.ev c = .c (.im (.flat (.bool b)))) (h1 : b = true → W C x s Q) (h2 : b = false → W C y s Q) : W C (.cond c x y) s Q := fun a w ⟨L, hs⟩ => wp_cond_split (ev_flat hs hc) (fun e => h1 e a w ⟨L, hs⟩) (fun e => h2 e a w ⟨L, hs⟩)
theorem W.block {id : Nat} {c : Code} (h : W C c s (inB id Q)) : W C (.block id c) s Q := fun a w hs => by
  refine wp_block (wp_mono (h a w hs) ?_)
  rintro e a' w' ⟨s', h1, h2⟩
  cases e with
  | normal => exact ⟨s', h1, h2⟩
  | exit i =>
    simp only [inB, Exit.inBlock] at *
    split
    · rename_i e; rw [if_pos e] at h2; exact ⟨s', h1, h2⟩
    · rename_i e; rw [if_neg e] at h2; exact ⟨s', h1, h2⟩
  | goto l => exact ⟨s', h1, h2⟩
  | ret => exact ⟨s', h1, h2⟩
  | panic ch => exact ⟨s', h1, h2⟩
  | outgrown => exact ⟨s', h1, h2⟩
/-- A loop: what holds at a round's head, with a number that goes down. -/
theorem W.loop {c : Code} (I : Nat → St → Prop) {n : Nat} (h0 : I n s) (round : ∀ n s, I n s → W C c s (thenK (fun s' => ∃ m, m < n ∧ I m s') Q)) : W C (.loop c) s Q := by
  intro a w hs b k cs
  have key : ∀ n s a w, S C s a w → I n s → ∃ e a' w', (∃ s', S C s' a' w' ∧ Q e s') ∧ Arrives C.P (lone (b.at a (.code c :: .inLoop c :: k)) cs w) b k cs e a' w' := by
    intro n
    induction n using Nat.strongRecOn with
    | _ n ih =>
      intro s a w hs hI
      obtain ⟨e, a₁, w₁, ⟨s₁, hs₁, hq⟩, harr⟩ := round n s hI a w hs b (.inLoop c :: k) cs
      cases e with
      | normal =>
        obtain ⟨m, hlt, hI₁⟩ := hq
        obtain ⟨e₂, a₂, w₂, hq₂, harr₂⟩ := ih m hlt s₁ a₁ w₁ hs₁ hI₁
        exact ⟨e₂, a₂, w₂, hq₂, .of_steps (Steps.trans harr (.one step_inLoop)) harr₂⟩
      | exit id => exact ⟨_, a₁, w₁, ⟨s₁, hs₁, hq⟩, .pass (x := .inLoop c) rfl (fun _ _ => .inl (by simp)) harr⟩
      | goto l => exact ⟨_, a₁, w₁, ⟨s₁, hs₁, hq⟩, .pass (x := .inLoop c) rfl (fun _ _ => .inl (by simp)) harr⟩
      | ret => exact ⟨_, a₁, w₁, ⟨s₁, hs₁, hq⟩, .pass (x := .inLoop c) rfl (fun _ _ => .inl (by simp)) harr⟩
      | panic ch => exact ⟨_, a₁, w₁, ⟨s₁, hs₁, hq⟩, .pass (x := .inLoop c) rfl (fun _ _ => .inl (by simp)) harr⟩
      | outgrown => exact ⟨_, a₁, w₁, ⟨s₁, hs₁, hq⟩, .pass (x := .inLoop c) rfl (fun _ _ => .inl (by simp)) harr⟩
  obtain ⟨e, a', w', hq, harr⟩ := key n s a w hs h0
  exact ⟨e, a', w', hq, .of_steps (.one step_loop) harr⟩
end rules

/-! ### regions -/
/-- The operations in the text's order, with what each reads and writes. -/
def Reg (C : Ctx) (ops : Array Oper) (n0 : Nat) (s0 : St) : Nat → List Oper → Trace → (Trace → Prop) → Prop
  | _, [], pre, K => K pre
  | i, o :: r, pre, K => ∃ F U, (StepOk C ops n0 i o F U (s0.ups pre.ups) ∧ ∀ u ∈ U, ∀ k, u.given k → k = n0 + i) ∧ Reg C ops n0 s0 (i + 1) r (pre ++ [(F, U)]) K
theorem Reg.out {C : Ctx} {ops : Array Oper} {n0 : Nat} {s0 : St} {K : Trace → Prop} : ∀ {l : List Oper} {i : Nat} {pre : Trace}, Reg C ops n0 s0 i l pre K → i = pre.length → ∃ tr, K (pre ++ tr) ∧ tr.length = l.length ∧ ∀ j F U o, tr[j]? = some (F, U) → l[j]? = some o → StepOk C ops n0 (i + j) o F U (s0.ups (Trace.ups ((pre ++ tr).take (i + j)))) ∧ ∀ u ∈ U, ∀ k, u.given k → k = n0 + (i + j)
  | [], i, pre, h, _ => ⟨[], by rw [List.append_nil]; exact h, rfl, fun j F U o hj => by simp at hj⟩
  | o :: r, i, pre, ⟨F, U, ⟨h1, h2⟩, h3⟩, hi => by
    obtain ⟨tr, k1, k2, k3⟩ := Reg.out h3 (by simp [hi])
    refine ⟨(F, U) :: tr, by simpa using k1, by simp [k2], fun j F' U' o' hj ho' => ?_⟩
    cases j with
    | zero =>
      simp at hj ho'
      obtain ⟨rfl, rfl⟩ := hj
      subst ho'
      rw [Nat.add_zero, List.take_left' hi.symm]
      exact ⟨h1, h2⟩
    | succ j =>
      have := k3 j F' U' o' (by simpa using hj) (by simpa using ho')
      rw [show i + 1 + j = i + (j + 1) by omega] at this
      simpa using this
theorem upd_given (tr : Trace) (n0 n : Nat) (s0 : St) (h0 : s0.nx = n0) (hex : s0.ex = []) (hl : tr.length = n) (hg : ∀ (j : Nat) F U, tr[j]? = some (F, U) → ∀ u ∈ U, ∀ k, Upd.given u k → k = n0 + j) : ∀ k, (s0.ups tr.ups).used k → k < n0 + n := by
  intro k hk
  rw [ups_used] at hk
  rcases hk with ⟨u, hu, hg2⟩ | h
  · simp only [Trace.ups, List.mem_flatten, List.mem_map] at hu
    obtain ⟨U', ⟨p, hp2, rfl⟩, hu2⟩ := hu
    obtain ⟨j, hj⟩ := List.getElem?_of_mem hp2
    have hjl := (List.getElem?_eq_some_iff.1 hj).1
    have := hg j p.1 p.2 hj u hu2 k hg2
    omega
  · rcases h with h | h
    · omega
    · rw [hex] at h; cases h
theorem W.region {C : Ctx} {s : St} {Q : Exit → St → Prop} {id : Nat} {ops : Array Oper} {l : List Oper} (hl : ops.toList = l) (hex : s.ex = []) (h : Reg C ops s.nx s 0 l [] fun tr => Q .normal ((s.ups tr.ups).bump (s.nx + l.length))) : W C (.region id ops false) s Q := by
  intro a w hs
  obtain ⟨tr, k1, k2, k3⟩ := Reg.out h rfl
  simp only [List.nil_append, Nat.zero_add] at k1 k3
  subst hl
  have htr : TrOk C ops s.nx s tr := ⟨by rw [k2]; simp, fun i F U o hi ho => k3 i F U o hi (by simpa using ho)⟩
  refine wp_region_list (list_sound rfl hex ops.toList 0 [] tr rfl rfl htr a w hs fun a' w' hs' => ?_)
  rw [List.nil_append] at hs'
  exact ⟨_, S_bump hs' _ (upd_given tr s.nx _ s rfl hex k2 fun j F U hj => by
    have hj2 : j < ops.toList.length := by rw [← k2]; exact (List.getElem?_eq_some_iff.1 hj).1
    exact (k3 j F U _ hj (List.getElem?_eq_getElem hj2)).2), k1⟩
theorem W.regionD {C : Ctx} {s : St} {Q : Exit → St → Prop} {id : Nat} {ops : Array Oper} {l : List Oper} (hf : C.P.follows .mixedOrders = true) (hl : ops.toList = l) (hb : backs 0 l = true) (hex : s.ex = []) (h : Reg C ops s.nx s 0 l [] fun tr => indep l [] l tr = true ∧ Q .normal ((s.ups tr.ups).bump (s.nx + l.length))) : W C (.region id ops true) s Q := by
  intro a w hs
  obtain ⟨tr, ⟨k0, k1⟩, k2, k3⟩ := Reg.out h rfl
  simp only [List.nil_append, Nat.zero_add] at k0 k1 k3
  subst hl
  have htr : TrOk C ops s.nx s tr := ⟨by rw [k2]; simp, fun i F U o hi ho => k3 i F U o hi (by simpa using ho)⟩
  refine wp_region_any hf (any_sound rfl hex htr k0 hb (fun a' w' hs' => ?_) _ _ a _ (by simp) (fun j hj => ?_) ?_ ?_)
  · exact ⟨_, S_bump hs' _ (upd_given tr s.nx _ s rfl hex k2 fun j F U hj => by
      have hj2 : j < ops.toList.length := by rw [← k2]; exact (List.getElem?_eq_some_iff.1 hj).1
      exact (k3 j F U _ hj (List.getElem?_eq_getElem hj2)).2), k1⟩
  · exfalso
    simp [Array.getD] at hj
  · exact Nat.le_trans List.countP_le_length (by simp)
  · rw [acc_none tr 0 fun j _ => by simp [Array.getD]]
    exact S_draw hs _ (Nat.le_succ _)
end Go.Exe
