/-
  Xn: a function's contract out of its body; what a state may forget, and other numbers for its objects.
-/
import Derived.Test.YtegcmciglakicaaXm
namespace Go.Exe
open Go.RowKit
set_option linter.unusedVariables false
set_option linter.unusedSimpArgs false

def idx {α : Type} : Nat → List α → List (Nat × α)
  | _, [] => []
  | n, x :: r => (n, x) :: idx (n + 1) r
theorem lk_idx {α : Type} : ∀ (l : List α) (n i : Nat), lk (idx n l) i = if n ≤ i then l[i - n]? else none
  | [], n, i => by simp [idx, lk]
  | x :: r, n, i => by
    simp only [idx, lk]
    by_cases h : n = i
    · subst h; simp
    · rw [beq_ne h]
      simp only [cond_false]
      rw [lk_idx r (n + 1) i]
      by_cases h2 : n ≤ i
      · rw [if_pos h2, if_pos (by omega), show i - n = (i - (n + 1)) + 1 by omega]; simp
      · rw [if_neg h2, if_neg (by omega)]
def St.init (args : List TV) (nt : Nat) : St := { t := idx 0 args, h := [], nx := 0, ex := [], nt := nt }
theorem RepC.any {P : Program} {ok ok' : Nat → Prop} {w : World} {U : Nat → Prop} {L : Where} {v : Value} {c : Cell} (h : RepC P ok w U0 L0 v c) (hok : ∀ b, ok b → b < w.heap.size → ok' b) : RepC P ok' w U L v c := by
  cases c with
  | im x => exact RepA.mono h hok
  | ref k => exact h.1.elim
  | ptr k o => exact h.1.elim
  | rp k a b o => exact h.1.elim
  | ip xs => exact imOnlyC_spec (c := .ip xs) rfl h hok
  | mp k => exact h.1.elim
  | clo f caps =>
    obtain ⟨vs, h1, h2⟩ := h
    cases caps with
    | nil => obtain rfl := h2.nil_right; exact ⟨[], h1, Al.nil⟩
    | cons p r => obtain ⟨v, vr, rfl, k1, _⟩ := h2.cons_right; exact k1.1.elim
  | vw k a b n => exact h.1.elim
  | orow e xs => exact h.elim
  | obox t cs => exact h.elim
  | dead => trivial
theorem RepT.any {P : Program} {ok ok' : Nat → Prop} {w : World} {U : Nat → Prop} {L : Where} {v : Value} {x : TV} (h : RepT P ok w U0 L0 v x) (hok : ∀ b, ok b → b < w.heap.size → ok' b) : RepT P ok' w U L v x := by
  cases x with
  | c x => exact RepC.any h hok
  | g xs => obtain ⟨vs, h1, h2⟩ := h; exact ⟨vs, h1, h2.imp fun _ _ h => h.any hok⟩
  | t ys =>
    obtain ⟨vs, h1, h2⟩ := h
    refine ⟨vs, h1, h2.imp fun _ _ h => ?_⟩
    unfold RepT1 at h ⊢
    split
    · rename_i hc; rw [if_pos hc] at h
      obtain ⟨us, h3, h4⟩ := h
      exact ⟨us, h3, h4.imp fun _ _ h => h.any hok⟩
    · rename_i hc; rw [if_neg hc] at h
      obtain ⟨c, h3, h4⟩ := h
      exact ⟨c, h3, h4.any hok⟩

/-! ### results -/
def St.res1 (P : Program) (s : St) : ResultVar → Option TV
  | .tmp t => s.imT (s.tv t)
  | .cell a t => (match s.tv a with
    | .c c => (match TI P t with
      | some (g, n) => (match Nat.blt 0 n && (g || Nat.beq n 1) with
        | true => (match s.rd n c with | some cs => s.imT (mkTV g cs) | none => none)
        | false => none)
      | none => none)
    | _ => none)
def toComp : TV → Option (Bool × List Cell)
  | .c x => some (false, [x])
  | .g xs => some (true, xs)
  | .t _ => none
def St.resL (P : Program) (s : St) : List ResultVar → Option (List (Bool × List Cell))
  | [] => some []
  | x :: r => (match s.res1 P x with
    | some v => (match toComp v, s.resL P r with | some c, some l => some (c :: l) | _, _ => none)
    | none => none)
def St.res (P : Program) (s : St) : List ResultVar → Option TV
  | [x] => s.res1 P x
  | l => (match s.resL P l with | some ys => some (.t ys) | none => none)
section
variable {C : Ctx} {s : St} {a : Act} {w : World} {L : Where}
def runRes1 (a : Act) : ResultVar → Sem Value
  | .tmp t => pure (a.tmps.getD t undef)
  | .cell b t => do loadVar t (← asAddr (a.tmps.getD b undef))
theorem Sim.res1 (h : Sim C s a w L) {x : ResultVar} {r : TV} (hr : s.res1 C.P x = some r) : ∃ v, (runRes1 a x).run C.P w = .ok v w ∧ RepT C.P (okAll C) w U0 L0 v r := by
  cases x with
  | tmp t => exact ⟨_, rfl, h.imT hr (h.tm t)⟩
  | cell b t =>
    simp only [St.res1] at hr
    split at hr <;> try (cases hr; done)
    rename_i c hc
    split at hr <;> try (cases hr; done)
    rename_i g n ht
    split at hr <;> try (cases hr; done)
    rename_i hn
    split at hr <;> try (cases hr; done)
    rename_i cs hcs
    simp only [Bool.and_eq_true, Bool.or_eq_true] at hn
    have hv := h.tm b
    rw [hc] at hv
    obtain ⟨u, h1, h2⟩ := h.load ht (Nat.le_of_ble_eq_true hn.1) (fun hg => hn.2.elim (fun h => by rw [hg] at h; cases h) beq_t) hcs hv
    obtain ⟨ad, _, he, _⟩ := h.rd hcs (Nat.le_of_ble_eq_true hn.1) hv
    refine ⟨u, ?_, h.imT hr h2⟩
    simp only [runRes1, he, asAddr, Sem.run_bind, Sem.run_pure, Result.andThen_ok]
    rw [he] at h1
    simpa [Instr.loadAt, Instr.sureAddr] using h1
theorem comp_rep {P : Program} {ok : Nat → Prop} {U : Nat → Prop} {v : Value} {x : TV} {y : Bool × List Cell} (h : RepT P ok w U L v x) (hy : toComp x = some y) : RepT1 P ok w U L v y := by
  cases x with
  | c x => cases hy; exact ⟨x, rfl, h⟩
  | g xs => cases hy; exact h
  | t ys => cases hy
theorem Sim.resL (h : Sim C s a w L) : ∀ {l : List ResultVar} {ys : List (Bool × List Cell)}, s.resL C.P l = some ys → ∃ vs, (l.mapM (runRes1 a)).run C.P w = .ok vs w ∧ Al (RepT1 C.P (okAll C) w U0 L0) vs ys
  | [], ys, hr => by cases hr; exact ⟨[], rfl, Al.nil⟩
  | x :: r, ys, hr => by
    simp only [St.resL] at hr
    split at hr <;> try (cases hr; done)
    rename_i v hv
    split at hr <;> try (cases hr; done)
    rename_i c l hc hl
    cases hr
    obtain ⟨u, h1, h2⟩ := h.res1 hv
    obtain ⟨vs, h3, h4⟩ := h.resL hl
    refine ⟨u :: vs, ?_, Al.cons (comp_rep h2 hc) h4⟩
    simp [List.mapM_cons, Sem.run_bind, h1, h3]
theorem Sim.res (h : Sim C s a w L) {fn : Func} {r : TV} (hr : s.res C.P fn.results.toList = some r) : ∃ v, (results fn a.tmps).run C.P w = .ok v w ∧ RepT C.P (okAll C) w U0 L0 v r := by
  have e : results fn a.tmps = (do let vs ← fn.results.mapM (runRes1 a); pure (if h : vs.size = 1 then vs[0] else .tuple vs)) := rfl
  rw [e]
  simp only [Array.mapM_eq_mapM_toList, Sem.run_bind]
  unfold St.res at hr
  split at hr
  · rename_i x hx
    obtain ⟨v, h1, h2⟩ := h.res1 hr
    refine ⟨v, ?_, h2⟩
    simp [hx, h1]
  · rename_i hne
    split at hr <;> try (cases hr; done)
    rename_i ys hys
    cases hr
    obtain ⟨vs, h1, h2⟩ := h.resL hys
    refine ⟨.tuple vs.toArray, ?_, vs, rfl, h2⟩
    have hlen : vs.length ≠ 1 := by
      intro hl
      have : ∀ (l : List ResultVar) (ys : List (Bool × List Cell)), s.resL C.P l = some ys → ys.length = l.length := by
        intro l
        induction l with
        | nil => intro ys h; cases h; rfl
        | cons x r ih =>
          intro ys h
          simp only [St.resL] at h
          split at h <;> try (cases h; done)
          split at h <;> try (cases h; done)
          rename_i h2
          cases h
          simp [ih _ h2]
      have h3 := this _ _ hys
      rw [← h2.1, hl] at h3
      match hm : fn.results.toList, h3 with
      | [x], _ => exact hne x hm
    simp [h1, hlen]
end
/-- What is asked of a function's text: its name, its temporaries, its results. -/
def FnOk (fn : Func) (nt : Nat) (rs : List ResultVar) : Prop := (fn.name == "runtime.NumGoroutine") = false ∧ fn.ntmps = nt ∧ fn.results.toList = rs
/-- A body's end: the result. -/
def Post (P : Program) (rs : List ResultVar) (r : TV) (e : Exit) (s : St) : Prop := (e = .normal ∨ e = .ret) ∧ s.res P rs = some r
theorem Post.ret {P : Program} {rs : List ResultVar} {r : TV} {s : St} (h : s.res P rs = some r) : Post P rs r .ret s := ⟨.inr rfl, h⟩
theorem Post.normal {P : Program} {rs : List ResultVar} {r : TV} {s : St} (h : s.res P rs = some r) : Post P rs r .normal s := ⟨.inl rfl, h⟩
theorem PCall.intro {P : Program} {f : Nat} {fn : Func} {c : Code} {args : List TV} {r : TV} {nt : Nat} {rs : List ResultVar} (hf : P.funcs[f]? = some fn) (hb : fn.body = some c) (hfn : FnOk fn nt rs) (hn : args.length ≤ nt)
    (h : ∀ C : Ctx, C.P = P → C.np = 0 → W C c (St.init args nt) (Post P rs r)) : PCall P f args r := by
  obtain ⟨hname, rfl, rfl⟩ := hfn
  refine ⟨⟨fn, hf, by rw [hb]; rfl, hname⟩, fun ok w vs hvs => ?_⟩
  let C : Ctx := { P := P, w0 := w, ok0 := ok, may := fun _ => False, np := 0, pblk := fun _ => (none, undef) }
  have hsz : vs.length = args.length := hvs.1
  have hok0 : ∀ b, ok b → b < w.heap.size → okOf C (St.init args fn.ntmps) L0 b := fun b hb _ => ⟨fun _ => .inl hb, fun k o hk => by simp [St.ob, St.init, lk] at hk⟩
  have hsim : Sim C (St.init args fn.ntmps) { tmps := vs.toArray ++ Array.replicate (fn.ntmps - vs.toArray.size) undef, defers := [] } w L0 := by
    refine ⟨rfl, rfl, ⟨rfl, Nat.le_refl _⟩, Nat.le_refl _, fun _ _ _ => rfl, by simp [St.init]; omega, fun i => ?_, fun k o hk => by simp [St.ob, St.init, lk] at hk, fun k k' o o' b hk => by simp [St.ob, St.init, lk] at hk, fun k o b hk => by simp [St.ob, St.init, lk] at hk, rfl, fun k hk => absurd hk (Nat.not_lt_zero k)⟩
    show RepT P _ w _ L0 _ ((lk (idx 0 args) i).getD (.c .dead))
    rw [lk_idx, if_pos (Nat.zero_le _), Nat.sub_zero]
    cases hi : args[i]? with
    | none => trivial
    | some x =>
      obtain ⟨v, hv, hr⟩ := hvs.get_right hi
      have hlt : i < vs.length := (List.getElem?_eq_some_iff.1 hv).1
      have : (vs.toArray ++ Array.replicate (fn.ntmps - vs.toArray.size) undef).getD i undef = v := by
        rw [Array.getD_eq_getD_getElem?, Array.getElem?_append_left (by simpa using hlt)]
        simp [hv]
      rw [this]
      exact hr.any hok0
  refine calls_of_wp hf hb (wp_mono (h C rfl rfl _ _ ⟨L0, hsim⟩) ?_)
  rintro e a' w' ⟨s', ⟨L', hs'⟩, ⟨he, hr⟩⟩
  obtain ⟨v, h1, h2⟩ := hs'.res (fn := fn) hr
  have hbelow : Below w.heap.size w w' ∧ w.drawn ≤ w'.drawn := ⟨⟨hs'.os, hs'.tape, hs'.output.1, hs'.size, fun b hb => hs'.kept b hb (fun h => h)⟩, hs'.output.2⟩
  have h3 : RepT P (fun b => b < w.heap.size → ok b) w' U0 L0 v r := h2.any fun b hb _ hlt => (hb hlt).elim id False.elim
  rcases he with rfl | rfl
  · exact ⟨hs'.defers, v, h1, v, rfl, hbelow, h3⟩
  · exact ⟨hs'.defers, v, h1, v, rfl, hbelow, h3⟩

/-! ### the reckoning's rules -/
theorem nbeq (a b : Nat) : Nat.beq a b = decide (a = b) := by
  by_cases h : a = b
  · subst h; simp
  · rw [beq_ne h]; simp [h]
theorem nble (a b : Nat) : Nat.ble a b = decide (a ≤ b) := by
  by_cases h : a ≤ b
  · rw [Nat.ble_eq_true_of_le h]; simp [h]
  · cases hb : Nat.ble a b with
    | false => simp [h]
    | true => exact absurd (Nat.le_of_ble_eq_true hb) h
theorem nblt (a b : Nat) : Nat.blt a b = decide (a < b) := nble (a + 1) b
theorem idx_nil {α : Type} (n : Nat) : idx n ([] : List α) = [] := rfl
theorem idx_cons {α : Type} (n : Nat) (x : α) (r : List α) : idx n (x :: r) = (n, x) :: idx (n + 1) r := rfl
theorem lk_nil {α : Type} (i : Nat) : lk ([] : List (Nat × α)) i = none := rfl
theorem lk_cons {α : Type} (j : Nat) (x : α) (r : List (Nat × α)) (i : Nat) : lk ((j, x) :: r) i = bif decide (j = i) then some x else lk r i := by rw [← nbeq]; rfl
theorem del_nil {α : Type} (i : Nat) : del i ([] : List (Nat × α)) = [] := rfl
theorem del_cons {α : Type} (j : Nat) (x : α) (r : List (Nat × α)) (i : Nat) : del i ((j, x) :: r) = bif decide (j = i) then del i r else (j, x) :: del i r := by rw [← nbeq]; rfl
theorem tv_def (t h nx ex nt i) : St.tv ⟨t, h, nx, ex, nt⟩ i = (lk t i).getD (.c .dead) := (rfl)
theorem ob_def (t h nx ex nt i) : St.ob ⟨t, h, nx, ex, nt⟩ i = lk h i := (rfl)
theorem ups_nil (s : St) : s.ups [] = s := (rfl)
theorem ups_cons (s : St) (u : Upd) (r : List Upd) : s.ups (u :: r) = (s.up u).ups r := (rfl)
theorem up_put (t h nx ex nt d v) : St.up ⟨t, h, nx, ex, nt⟩ (.put d v) = ⟨(d, v) :: del d t, h, nx, ex, nt⟩ := (rfl)
theorem up_new (t h nx ex nt k o) : St.up ⟨t, h, nx, ex, nt⟩ (.new k o) = ⟨t, (k, o) :: del k h, nx, k :: ex, nt⟩ := (rfl)
theorem up_del (t h nx ex nt k) : St.up ⟨t, h, nx, ex, nt⟩ (.del k) = ⟨t, del k h, nx, ex, nt⟩ := (rfl)
theorem up_set (t h nx ex nt k o) : St.up ⟨t, h, nx, ex, nt⟩ (.set k o) = ⟨t, (k, o) :: del k h, nx, ex, nt⟩ := (rfl)
theorem bump_def (t h nx ex nt m) : St.bump ⟨t, h, nx, ex, nt⟩ m = ⟨t, h, m, [], nt⟩ := (rfl)
theorem init_def (args : List TV) (nt : Nat) : St.init args nt = ⟨idx 0 args, [], 0, [], nt⟩ := rfl
theorem thenK_n (K : St → Prop) (Q : Exit → St → Prop) (s : St) : thenK K Q .normal s = K s := rfl
theorem dstOk_some (d n : Nat) : dstOk (some d) n = decide (d < n) := nblt d n
theorem dstOk_none (n : Nat) : dstOk none n = true := rfl
theorem run_nil (C : Ctx) (ops : Array Oper) (n0 i : Nat) (s : St) (K : St → Prop) : Run C ops n0 i [] s K = K s := (rfl)
theorem run_cons (C : Ctx) (ops : Array Oper) (n0 i : Nat) (o : Oper) (r : List Oper) (t h nx ex nt) (K : St → Prop) : Run C ops n0 i (o :: r) ⟨t, h, nx, ex, nt⟩ K = AStep C ops (n0 + i) o ⟨t, h, nx, ex, nt⟩ fun _ U => Run C ops n0 (i + 1) r (St.ups ⟨t, h, nx, ex, nt⟩ U) K := (rfl)
theorem runD_nil (C : Ctx) (ops : Array Oper) (n0 i : Nat) (s : St) (tr : KTrace) (K : St → KTrace → Prop) : RunD C ops n0 i [] s tr K = K s tr := (rfl)
theorem runD_cons (C : Ctx) (ops : Array Oper) (n0 i : Nat) (o : Oper) (r : List Oper) (t h nx ex nt) (tr : KTrace) (K : St → KTrace → Prop) : RunD C ops n0 i (o :: r) ⟨t, h, nx, ex, nt⟩ tr K = AStep C ops (n0 + i) o ⟨t, h, nx, ex, nt⟩ fun F U => RunD C ops n0 (i + 1) r (St.ups ⟨t, h, nx, ex, nt⟩ U) (tr ++ [(F, U.map Upd.key)]) K := (rfl)
/-- The steps, told so that each leaves its proof (the kernel is not to reckon a region anew at each step). -/
def AOpX (r : Ex) (C : Ctx) (k : Nat) (o : Oper) (s : St) (K : List Key → List Upd → Prop) : Prop := match r with | some (F, p, U) => p ∧ K F U | none => AX C k o s K
theorem aop_x (C : Ctx) (k : Nat) (o : Oper) (s : St) (K : List Key → List Upd → Prop) : AOp C k o s K = AOpX (exec1 C.P k o s) C k o s K := (rfl)
theorem aopx_s (F : List Key) (p : Prop) (U : List Upd) (C : Ctx) (k : Nat) (o : Oper) (s : St) (K : List Key → List Upd → Prop) : AOpX (some (F, p, U)) C k o s K = (p ∧ K F U) := (rfl)
theorem aopx_n (C : Ctx) (k : Nat) (o : Oper) (s : St) (K : List Key → List Upd → Prop) : AOpX none C k o s K = AX C k o s K := (rfl)
def AStB (g : Bool) (d : Nat) (C : Ctx) (k : Nat) (o : Oper) (s : St) (K : List Key → List Upd → Prop) : Prop := match g with | true => AOp C k o s fun F U => K (.t d :: F) U | false => K [.t d] (skU o.dst)
def AStH (ok : Bool) (x : TV) (b : Bool) (d : Nat) (C : Ctx) (k : Nat) (o : Oper) (s : St) (K : List Key → List Upd → Prop) : Prop := match ok with
  | true => (match x with
    | .c (.im (.flat (.bool v))) => AStB (gv v b) d C k o s K
    | .t [] => K [.t d] (skU o.dst)
    | _ => False)
  | false => False
def AStG (x : Option Nat) (b : Bool) (C : Ctx) (k : Nat) (o : Oper) (s : St) (K : List Key → List Upd → Prop) : Prop := match x with | some d => AStH (dstOk o.dst s.nt) (s.tv d) b d C k o s K | none => False
theorem astep_n (C : Ctx) (ops : Array Oper) (k : Nat) (d op ty pos af) (s : St) (K : List Key → List Upd → Prop) : AStep C ops k ⟨d, op, ty, pos, af, none⟩ s K = AOp C k ⟨d, op, ty, pos, af, none⟩ s K := (rfl)
theorem astep_g (C : Ctx) (ops : Array Oper) (k : Nat) (d op ty pos af j b) (s : St) (K : List Key → List Upd → Prop) : AStep C ops k ⟨d, op, ty, pos, af, some (j, b)⟩ s K = AStG (dstAt ops.toList j) b C k ⟨d, op, ty, pos, af, some (j, b)⟩ s K := (rfl)
theorem stG_n (b : Bool) (C : Ctx) (k : Nat) (o : Oper) (s : St) (K : List Key → List Upd → Prop) : AStG none b C k o s K = False := (rfl)
theorem stG_s (d : Nat) (b : Bool) (C : Ctx) (k : Nat) (o : Oper) (s : St) (K : List Key → List Upd → Prop) : AStG (some d) b C k o s K = AStH (dstOk o.dst s.nt) (s.tv d) b d C k o s K := (rfl)
theorem stH_b (v b : Bool) (d : Nat) (C : Ctx) (k : Nat) (o : Oper) (s : St) (K : List Key → List Upd → Prop) : AStH true (.c (.im (.flat (.bool v)))) b d C k o s K = AStB (gv v b) d C k o s K := (rfl)
theorem stH_t (b : Bool) (d : Nat) (C : Ctx) (k : Nat) (o : Oper) (s : St) (K : List Key → List Upd → Prop) : AStH true (.t []) b d C k o s K = K [.t d] (skU o.dst) := (rfl)
theorem stB_t (d : Nat) (C : Ctx) (k : Nat) (o : Oper) (s : St) (K : List Key → List Upd → Prop) : AStB true d C k o s K = AOp C k o s fun F U => K (.t d :: F) U := (rfl)
theorem stB_f (d : Nat) (C : Ctx) (k : Nat) (o : Oper) (s : St) (K : List Key → List Upd → Prop) : AStB false d C k o s K = K [.t d] (skU o.dst) := (rfl)
theorem ik_beq (k : IntKind) : (k == k) = true := by cases k <;> rfl
attribute [go_sem] ik_beq beq_self_eq_true bne_self_eq_false not_true_eq_false not_false_eq_true
attribute [go_sem] nbeq nble nblt idx_nil idx_cons lk_nil lk_cons del_nil del_cons tv_def ob_def ups_nil ups_cons up_put up_new up_del up_set bump_def init_def thenK_n dstOk_some dstOk_none
  cond_true cond_false Option.getD_some Option.getD_none
  run_nil run_cons runD_nil runD_cons astep_n astep_g stG_n stG_s stH_b stH_t stB_t stB_f aop_x aopx_s aopx_n exec1 xBox xBuild xLit xLoad xStore xField xNil xExtract xPick xBin xUn xConv xLen xElem xIndexS xCut xAppend xExt xFunc
  Nat.reduceLT Nat.reduceLeDiff Nat.reduceEqDiff Nat.reduceAdd Nat.reduceSub Nat.reduceMul decide_true decide_false List.length_cons List.length_nil Nat.zero_add Nat.add_zero Nat.le_refl
  Bool.and_true Bool.true_and Bool.and_false Bool.false_and Bool.or_true Bool.true_or Bool.or_false Bool.false_or Bool.not_true Bool.not_false true_and and_true
  dstAt gv dU skU St.ev cv TV.cells live Cell.live mkTV St.rd St.wr splice St.parts fillA Plc.at_ inOrder allLen binX bopI bopS convX nilTest offC compTV kindOf intsOf maxL minL capsOf AV.els St.len St.elemAt St.cut St.src bnd cutOk unimL unim St.imC St.imCs St.imT St.imArgs frzC frzCs frzT frzArgs St.res St.res1 St.resL toComp flatC flatT imOnlyC imOnly fnOf
end Go.Exe
