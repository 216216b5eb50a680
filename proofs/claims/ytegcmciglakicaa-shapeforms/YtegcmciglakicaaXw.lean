/-
  Xw: '==' of structs whose cells are all plain values.
-/
import Derived.Test.YtegcmciglakicaaXv
namespace Go.Exe
open Go.RowKit
set_option linter.unusedVariables false
set_option linter.unusedSimpArgs false
section
variable {C : Ctx} {s : St}
theorem AX.eqKey {k : Nat} {o : Oper} {K : List Key → List Upd → Prop} {t t' : TypeId} {y z : Operand} {a b : Array Value} {r : Bool} (ho : o.op = .binOp .eql t y z t') (hy : keyV (s.ev y) = some (.agg a)) (hz : keyV (s.ev z) = some (.agg b))
    (hg : C.P.eqGuardType C.P.depth t = false) (heq : ∀ w, (Op.equal t (.agg a) (.agg b)).run C.P w = .ok r w) (hd : dstOk o.dst s.nt = true) (h : K (opK y ++ opK z) (dU o.dst (ft (.bool r)))) : AX C k o s K := by
  refine ⟨_, _, fun s1 hag hnt hk => ?_, fun u hu j hj => (given_dU u hu j hj).elim, h⟩
  rw [ups_dU]
  have e1 : s1.ev y = s.ev y := agree_ev hag (by intro x hx; simp [hx])
  have e2 : s1.ev z = s.ev z := agree_ev hag (by intro x hx; simp [hx])
  refine opOk_flat rfl (by rw [hnt]; exact dstOk_spec hd) fun ac w L hs => ?_
  have hv := hs.ev y
  rw [e1] at hv
  have hv2 := hs.ev z
  rw [e2] at hv2
  have h1 := keyV_spec hv hy
  have h2 := keyV_spec hv2 hz
  unfold execOp
  simp [ho, h1, h2, eqGuard, binOp, heq, Sem.run_bind, hg]
end
end Go.Exe
