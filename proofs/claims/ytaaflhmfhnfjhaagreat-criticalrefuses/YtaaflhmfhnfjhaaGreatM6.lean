import Derived.Test.YtaaflhmfhnfjhaaGreatM5
import Derived.Test.YtaaflhmfhnfjhaaGreatM3
import Derived.Test.YtaaflhmfhnfjhaaGreatM2
namespace Go.Proofs.YtaaflhmfhnfjhaaGreat
open Go.RowKit Go.Exe
set_option linter.unusedVariables false
set_option linter.unusedSimpArgs false
set_option maxHeartbeats 8000000
set_option maxRecDepth 100000
/-! ### stories -/
structure Cal where
  pa : Nat
  cl : Nat
  ki : Nat
  se : Nat
  ve : Nat
  op : Nat
  wa : Nat
  lo : Nat
  li : Nat
  ta : Nat
  fa : Bool
structure Tre where
  slot : Nat
  start : Nat
  cs : List Cal
structure Sto where
  ts : List Tre
  o1 : Int
  o2 : Int
  o3 : Int
  o4 : Int
  sy : List (List AV)
  wr : Nat
def Cal.ok (c : Cal) : Prop := c.pa < 256 ∧ c.cl < 256 ∧ c.ki < 256 ∧ c.se < 256 ∧ c.ve < 256 ∧ c.op < 256 ∧ c.wa < 256 ∧ c.lo < 256 ∧ c.li < 256 ∧ c.ta < 256
def i8 (n : Int) : Prop := -128 ≤ n ∧ n ≤ 127
def Tre.ok (t : Tre) : Prop := t.slot < 256 ∧ t.start < 256 ∧ (∀ c ∈ t.cs, c.ok) ∧ t.cs.length ≤ 8
def Sto.ok (s : Sto) : Prop := (∀ t ∈ s.ts, t.ok) ∧ i8 s.o1 ∧ i8 s.o2 ∧ i8 s.o3 ∧ i8 s.o4 ∧ s.wr < 256 ∧ s.ts.length ≤ 3
/-- The first m trees have at most 8 calls. -/
def shortT (s : Sto) (m : Nat) : Bool := (s.ts.take m).all fun t => decide (t.cs.length ≤ 8)
def shortS (s : Sto) : Bool := shortT s s.ts.length && decide (s.ts.length ≤ 3) && decide (s.sy.length ≤ 6)
def offC (s : Sto) (clk : Nat) : Int := Int.tmod (if clk = 1 then s.o1 else if clk = 2 then s.o2 else if clk = 3 then s.o3 else s.o4) 21
/-! ### remainders of bytes -/
theorem tm (a b : Nat) : Int.tmod (a : Int) (b : Int) = ((a % b : Nat) : Int) := by
  rw [Int.tmod_eq_emod_of_nonneg (by omega)]; rfl
theorem td (a b : Nat) : Int.tdiv (a : Int) (b : Int) = ((a / b : Nat) : Int) := rfl
theorem tm8 (a : Nat) : Int.tmod (a : Int) 8 = ((a % 8 : Nat) : Int) := tm a 8
theorem w64n (a : Nat) (h : a < 9223372036854775808) : IntKind.i64.wrap (a : Int) = (a : Int) := w64 (by omega) (by omega)
attribute [local irreducible] W AX Run RunD AStep AOp AOpX AStB AStH AStG Fits PCall GCall PostG Post Stop
end Go.Proofs.YtaaflhmfhnfjhaaGreat
namespace Go.Proofs.YtaaflhmfhnfjhaaGreat
open Go.RowKit Go.Exe
set_option linter.unusedVariables false
set_option linter.unusedSimpArgs false
set_option maxHeartbeats 8000000
set_option maxRecDepth 100000
attribute [local irreducible] W AX Run RunD AStep AOp AOpX AStB AStH AStG Fits PCall GCall PostG Post Stop
end Go.Proofs.YtaaflhmfhnfjhaaGreat
namespace Go.Proofs.YtaaflhmfhnfjhaaGreat
open Go.RowKit Go.Exe
set_option linter.unusedVariables false
set_option linter.unusedSimpArgs false
set_option maxHeartbeats 8000000
set_option maxRecDepth 100000
attribute [local irreducible] W AX Run RunD AStep AOp AOpX AStB AStH AStG Fits PCall GCall PostG Post Stop
end Go.Proofs.YtaaflhmfhnfjhaaGreat
namespace Go.Proofs.YtaaflhmfhnfjhaaGreat
open Go.RowKit Go.Exe
set_option linter.unusedVariables false
set_option linter.unusedSimpArgs false
set_option maxHeartbeats 8000000
set_option maxRecDepth 100000
attribute [local irreducible] W AX Run RunD AStep AOp AOpX AStB AStH AStG Fits PCall GCall PostG Post Stop
end Go.Proofs.YtaaflhmfhnfjhaaGreat
namespace Go.Proofs.YtaaflhmfhnfjhaaGreat
open Go.RowKit Go.Exe
set_option linter.unusedVariables false
set_option linter.unusedSimpArgs false
set_option maxHeartbeats 8000000
set_option maxRecDepth 100000
attribute [local irreducible] W AX Run RunD AStep AOp AOpX AStB AStH AStG Fits PCall GCall PostG Post Stop
end Go.Proofs.YtaaflhmfhnfjhaaGreat
