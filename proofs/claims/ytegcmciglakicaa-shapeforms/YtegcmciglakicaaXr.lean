/-
  Xr: the contract of a function that may write what is handed in: its arguments with the objects behind them, its result with theirs.
-/
import Derived.Test.YtegcmciglakicaaXq
namespace Go.Exe
open Go.RowKit
set_option linter.unusedVariables false
set_option linter.unusedSimpArgs false

/-- s0: the arguments as temporaries 0, 1, .. and the objects handed in; s1: the result as temporary 0 and the objects as they are left. (np: so many of the objects handed in keep their places.) -/
def GCall (P : Program) (f np : Nat) (s0 s1 : St) : Prop :=
  CallOk P f ∧ ∀ (C : Ctx), C.P = P → C.np = np → ∀ (vs : List Value) (w : World) (L : Where), Sim C s0 { tmps := vs.toArray, defers := [] } w L →
    Calls P f vs.toArray w fun e w' => ∃ v L', e = .returned v ∧ Sim C s1 { tmps := #[v], defers := [] } w' L'

/-! ### results as they are -/
def St.resG1 (P : Program) (s : St) : ResultVar → Option TV
  | .tmp t => some (s.tv t)
  | .cell a t => (match s.tv a with
    | .c c => (match TI P t with
      | some (g, n) => (match Nat.blt 0 n && (g || Nat.beq n 1) with
        | true => (match s.rd n c with | some cs => some (mkTV g cs) | none => none)
        | false => none)
      | none => none)
    | _ => none)
def St.resGL (P : Program) (s : St) : List ResultVar → Option (List (Bool × List Cell))
  | [] => some []
  | x :: r => (match s.resG1 P x with
    | some v => (match toComp v, s.resGL P r with | some c, some l => some (c :: l) | _, _ => none)
    | none => none)
def St.resG (P : Program) (s : St) : List ResultVar → Option TV
  | [x] => s.resG1 P x
  | l => (match s.resGL P l with | some ys => some (.t ys) | none => none)
section
variable {C : Ctx} {s : St} {a : Act} {w : World} {L : Where}
theorem Sim.resG1 (h : Sim C s a w L) {x : ResultVar} {r : TV} (hr : s.resG1 C.P x = some r) : ∃ v, (runRes1 a x).run C.P w = .ok v w ∧ RepT C.P (okOf C s L) w s.used L v r := by
  cases x with
  | tmp t => simp only [St.resG1, Option.some.injEq] at hr; subst hr; exact ⟨_, rfl, h.tm t⟩
  | cell b t =>
    simp only [St.resG1] at hr
    split at hr <;> try (cases hr; done)
    rename_i c hc
    split at hr <;> try (cases hr; done)
    rename_i g n ht
    split at hr <;> try (cases hr; done)
    rename_i hn
    split at hr <;> try (cases hr; done)
    rename_i cs hcs
    cases hr
    simp only [Bool.and_eq_true, Bool.or_eq_true] at hn
    have hv := h.tm b
    rw [hc] at hv
    obtain ⟨u, h1, h2⟩ := h.load ht (Nat.le_of_ble_eq_true hn.1) (fun hg => hn.2.elim (fun h => by rw [hg] at h; cases h) beq_t) hcs hv
    obtain ⟨ad, _, he, _⟩ := h.rd hcs (Nat.le_of_ble_eq_true hn.1) hv
    refine ⟨u, ?_, h2⟩
    simp only [runRes1, he, asAddr, Sem.run_bind, Sem.run_pure, Result.andThen_ok]
    rw [he] at h1
    simpa [Instr.loadAt, Instr.sureAddr] using h1
theorem Sim.resGL (h : Sim C s a w L) : ∀ {l : List ResultVar} {ys : List (Bool × List Cell)}, s.resGL C.P l = some ys → ∃ vs, (l.mapM (runRes1 a)).run C.P w = .ok vs w ∧ Al (RepT1 C.P (okOf C s L) w s.used L) vs ys
  | [], ys, hr => by cases hr; exact ⟨[], rfl, Al.nil⟩
  | x :: r, ys, hr => by
    simp only [St.resGL] at hr
    split at hr <;> try (cases hr; done)
    rename_i v hv
    split at hr <;> try (cases hr; done)
    rename_i c l hc hl
    cases hr
    obtain ⟨u, h1, h2⟩ := h.resG1 hv
    obtain ⟨vs, h3, h4⟩ := h.resGL hl
    refine ⟨u :: vs, ?_, Al.cons (comp_rep h2 hc) h4⟩
    simp [List.mapM_cons, Sem.run_bind, h1, h3]
theorem Sim.resG (h : Sim C s a w L) {fn : Func} {r : TV} (hr : s.resG C.P fn.results.toList = some r) : ∃ v, (results fn a.tmps).run C.P w = .ok v w ∧ RepT C.P (okOf C s L) w s.used L v r := by
  have e : results fn a.tmps = (do let vs ← fn.results.mapM (runRes1 a); pure (if h : vs.size = 1 then vs[0] else .tuple vs)) := rfl
  rw [e]
  simp only [Array.mapM_eq_mapM_toList, Sem.run_bind]
  unfold St.resG at hr
  split at hr
  · rename_i x hx
    obtain ⟨v, h1, h2⟩ := h.resG1 hr
    refine ⟨v, ?_, h2⟩
    simp [hx, h1]
  · rename_i hne
    split at hr <;> try (cases hr; done)
    rename_i ys hys
    cases hr
    obtain ⟨vs, h1, h2⟩ := h.resGL hys
    refine ⟨.tuple vs.toArray, ?_, vs, rfl, h2⟩
    have hlen : vs.length ≠ 1 := by
      intro hl
      have : ∀ (l : List ResultVar) (ys : List (Bool × List Cell)), s.resGL C.P l = some ys → ys.length = l.length := by
        intro l
        induction l with
        | nil => intro ys h; cases h; rfl
        | cons x r ih =>
          intro ys h
          simp only [St.resGL] at h
          split at h <;> try (cases h; done)
          split at h <;> try (cases h; done)
          rename_i h2
          cases h
          simp [ih _ h2]
      have h3 := this _ _ hys
      rw [← h2.1, hl] at h3
      match hm : fn.results.toList, h3 with
      | [x], _ => exact hne x hm
    simp [h1, hlen]
/-- A body's end. -/
def PostG (C : Ctx) (rs : List ResultVar) (s1 : St) (e : Exit) (s : St) : Prop := (e = .normal ∨ e = .ret) ∧ ∃ s2 r, Fits C s s2 ∧ s2.resG C.P rs = some r ∧ s2.ex = [] ∧ s1 = { t := [(0, r)], h := s2.h, nx := s2.nx, ex := [], nt := 1 }
theorem PostG.ret {rs : List ResultVar} {s1 s s2 : St} {r : TV} (h : Fits C s s2) (hr : s2.resG C.P rs = some r) (hex : s2.ex = []) (e : s1 = { t := [(0, r)], h := s2.h, nx := s2.nx, ex := [], nt := 1 }) : PostG C rs s1 .ret s := ⟨.inr rfl, s2, r, h, hr, hex, e⟩
theorem PostG.normal {rs : List ResultVar} {s1 s s2 : St} {r : TV} (h : Fits C s s2) (hr : s2.resG C.P rs = some r) (hex : s2.ex = []) (e : s1 = { t := [(0, r)], h := s2.h, nx := s2.nx, ex := [], nt := 1 }) : PostG C rs s1 .normal s := ⟨.inl rfl, s2, r, h, hr, hex, e⟩
theorem GCall.intro {P : Program} {f np : Nat} {fn : Func} {c : Code} {s0 s1 : St} {nt : Nat} {rs : List ResultVar} (hf : P.funcs[f]? = some fn) (hb : fn.body = some c) (hfn : FnOk fn nt rs) (hn : s0.nt ≤ nt) (hex : s0.ex = [])
    (h : ∀ C : Ctx, C.P = P → C.np = np → W C c { s0 with nt := nt } (PostG C rs s1)) : GCall P f np s0 s1 := by
  obtain ⟨hname, rfl, rfl⟩ := hfn
  refine ⟨⟨fn, hf, by rw [hb]; rfl, hname⟩, fun C hC hnp vs w L hs => ?_⟩
  subst hC
  have hsz : vs.length = s0.nt := by have := hs.nt; simpa using this
  have hsim : Sim C { s0 with nt := fn.ntmps } { tmps := vs.toArray ++ Array.replicate (fn.ntmps - vs.toArray.size) undef, defers := [] } w L := by
    refine ⟨hs.os, hs.tape, hs.output, hs.size, hs.kept, by simp; omega, fun i => ?_, hs.ob, hs.inj, hs.own, rfl, hs.pin⟩
    have h1 := hs.tm i
    have : (vs.toArray ++ Array.replicate (fn.ntmps - vs.toArray.size) undef).getD i undef = vs.toArray.getD i undef := by
      rw [Array.getD_eq_getD_getElem?, Array.getD_eq_getD_getElem?, Array.getElem?_append]
      split
      · rfl
      · rename_i hi
        rw [Array.getElem?_replicate, Array.getElem?_eq_none (xs := vs.toArray) (by omega)]
        split <;> rfl
    show RepT C.P _ w _ L ((vs.toArray ++ Array.replicate (fn.ntmps - vs.toArray.size) undef).getD i undef) _
    rw [this]
    exact h1
  refine calls_of_wp hf hb (wp_mono (h C rfl hnp _ _ ⟨L, hsim⟩) ?_)
  rintro e a' w' ⟨s', hs', ⟨he, s2, r, hfit, hr, hex2, rfl⟩⟩
  obtain ⟨L2, hs2⟩ := hfit _ _ hs'
  obtain ⟨v, h1, h2⟩ := hs2.resG (fn := fn) hr
  have hu : s2.used = St.used { t := [(0, r)], h := s2.h, nx := s2.nx, ex := [], nt := 1 } := by
    funext k; simp [St.used, hex2]
  have hsr : Sim C { t := [(0, r)], h := s2.h, nx := s2.nx, ex := [], nt := 1 } { tmps := #[v], defers := [] } w' L2 := by
    refine ⟨hs2.os, hs2.tape, hs2.output, hs2.size, hs2.kept, rfl, fun i => ?_, fun k o hk => ?_, hs2.inj, hs2.own, rfl, fun k hk => by have := hs2.pin k hk; rw [hu] at this; exact this⟩
    · cases i with
      | zero =>
        show RepT C.P (okOf C s2 L2) w' _ L2 v r
        rw [← hu]; exact h2
      | succ i =>
        show RepT C.P _ w' _ L2 _ (.c .dead)
        trivial
    · have := hs2.ob k o hk
      rw [hu] at this
      exact this
  rcases he with rfl | rfl
  · exact ⟨hs2.defers, v, h1, v, L2, rfl, hsr⟩
  · exact ⟨hs2.defers, v, h1, v, L2, rfl, hsr⟩
end
attribute [go_sem] St.resG St.resG1 St.resGL
end Go.Exe
