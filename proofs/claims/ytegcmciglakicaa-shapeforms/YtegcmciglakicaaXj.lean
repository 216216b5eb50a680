/-
  Xj: the operations that are reckoned.
-/
import Derived.Test.YtegcmciglakicaaXi
namespace Go.Exe
open Go.RowKit
set_option linter.unusedVariables false
set_option linter.unusedSimpArgs false

def opK : Operand → List Key
  | .tmp t => [.t t]
  | _ => []
def cellK : Cell → List Key
  | .ref k => [.h k]
  | .ptr k _ => [.h k]
  | .rp k _ _ _ => [.h k]
  | .vw k _ _ _ => [.h k]
  | .mp k => [.h k]
  | _ => []
def opsK : List Operand → List Key
  | [] => []
  | y :: r => opK y ++ opsK r
def partsK : List (Nat × Operand) → List Key
  | [] => []
  | p :: r => opK p.2 ++ partsK r
def optK : Option Operand → List Key
  | some y => opK y
  | none => []
def dU (d : Option Nat) (v : TV) : List Upd := match d with | some d => [.put d v] | none => []
def dstOk (d : Option Nat) (nt : Nat) : Bool := match d with | some d => Nat.blt d nt | none => true
abbrev fl (v : Value) : Cell := .im (.flat v)
abbrev ft (v : Value) : TV := .c (.im (.flat v))

/-- An operator's value. -/
def binX (P : Program) (op : BinOp) (t : TypeId) (x y : TV) : Option (Prop × Value) :=
  match x, y with
  | .c (.im (.flat (.int k a))), .c (.im (.flat (.int k' b))) => match (decide (k = k')) with | true => bopI op k a b | false => none
  | .c (.im (.flat (.string a))), .c (.im (.flat (.string b))) => bopS op a b
  | .c (.im (.flat (.bool a))), .c (.im (.flat (.bool b))) => (match P.underlying t with
    | some .bool => (match op with | .eql => some (True, .bool (a == b)) | .neq => some (True, .bool (!(a == b))) | _ => none)
    | _ => none)
  | .c c, .c (.im (.flat (.pointer none))) => (match P.underlying t with
    | some (.pointer _) => (match nilTest c with
      | some b => (match c with
        | .mp _ => none
        | .im (.flat (.map none)) => none
        | _ => (match op with | .eql => some (True, .bool b) | .neq => some (True, .bool (!b)) | _ => none))
      | none => none)
    | _ => none)
  | _, _ => none
/-- A conversion's value. -/
def convX (P : Program) (t u : TypeId) (x : TV) : Option Value :=
  match x with
  | .c (.im (.flat (.int _ n))) => (match P.underlying t, P.underlying u with
    | some _, some (.int k) => some (.int k (k.wrap n))
    | _, _ => none)
  | .c (.im (.flat (.string n))) => (match P.underlying t, P.underlying u with
    | some _, some .string => some (.string n)
    | _, _ => none)
  | _ => none

abbrev Ex := Option (List Key × Prop × List Upd)
def xBox (k : Nat) (o : Oper) (s : St) (t : TypeId) (y : Operand) : Ex :=
  match (s.ev y).cells with
  | some cs => match live cs with
    | true => some (opK y, True, .new k (.box t cs) :: dU o.dst (.c (.ptr k 0)))
    | false => none
  | none => none
def xBuild (P : Program) (o : Oper) (s : St) (t : TypeId) (ps : List (Nat × Operand)) : Ex :=
  match PLs P t, ZV P t, s.parts ps with
  | some pl, some zs, some l => (match fillA pl.at_ (zs.map fun v => .im (.flat v)) l with
    | some cs => some (partsK ps, True, dU o.dst (.g cs))
    | none => none)
  | _, _, _ => none
def xLit (P : Program) (k : Nat) (o : Oper) (s : St) (t : TypeId) (len : Nat) (ps : List (Nat × Operand)) : Ex :=
  match EL P t with
  | some e => (match EInfo P e, ZV P e, s.parts ps with
    | some (sz, bs), some _, some l => (match Nat.blt 0 sz && Nat.ble (len * sz) 16777216 && Nat.ble (len * bs) 140737488355328 && inOrder 0 l && Nat.beq l.length len && allLen sz (l.map (·.2)) with
      | true => some (partsK ps, True, .new k (.row e (l.map (·.2))) :: dU o.dst (.c (.ref k)))
      | false => none)
    | _, _, _ => none)
  | none => none
def xLoad (P : Program) (o : Oper) (s : St) (t : TypeId) (y : Operand) : Ex :=
  match s.ev y with
  | .c c => (match TI P t with
    | some (g, n) => (match Nat.blt 0 n && (g || Nat.beq n 1) with
      | true => (match s.rd n c with
        | some cs => some (opK y ++ cellK c, True, dU o.dst (mkTV g cs))
        | none => none)
      | false => none)
    | none => none)
  | _ => none
def xStore (P : Program) (o : Oper) (s : St) (t : TypeId) (y z : Operand) : Ex :=
  match o.dst, s.ev y, (s.ev z).cells with
  | none, .c c, some ds => (match TI P t with
    | some (_, n) => (match Nat.beq n ds.length && live ds with
      | true => (match s.wr ds c with
        | some (k, o') => some (opK y ++ opK z ++ cellK c, True, [.set k o'])
        | none => none)
      | false => none)
    | none => none)
  | _, _, _ => none
def xField (P : Program) (o : Oper) (s : St) (t : TypeId) (y : Operand) (f : Nat) : Ex :=
  match s.ev y, FO P t f with
  | .c c, some k => (match offC k c with
    | some d => some (opK y, True, dU o.dst (.c d))
    | none => none)
  | _, _ => none
def xNil (o : Oper) (s : St) (y : Operand) : Ex :=
  match s.ev y with
  | .c c => (match offC 0 c with
    | some _ => some (opK y, True, dU o.dst (.c c))
    | none => none)
  | _ => none
def xExtract (o : Oper) (s : St) (y : Operand) (j : Nat) : Ex :=
  match s.ev y with
  | .t ys => (match ys[j]? with
    | some z => some (opK y, True, dU o.dst (compTV z))
    | none => none)
  | _ => none
def xPick (o : Oper) (s : St) (c y z : Operand) : Ex :=
  match s.ev c with
  | .c (.im (.flat (.bool b))) => some (opK c ++ opK y ++ opK z, True, dU o.dst (if b = true then s.ev y else s.ev z))
  | _ => none
def xBin (P : Program) (o : Oper) (s : St) (op : BinOp) (t : TypeId) (y z : Operand) : Ex :=
  match binX P op t (s.ev y) (s.ev z) with
  | some (p, v) => some (opK y ++ opK z, p, dU o.dst (ft v))
  | none => none
def xUn (o : Oper) (s : St) (op : UnOp) (y : Operand) : Ex :=
  match op, s.ev y with
  | .not, .c (.im (.flat (.bool b))) => some (opK y, True, dU o.dst (ft (.bool (!b))))
  | .neg, .c (.im (.flat (.int k n))) => some (opK y, True, dU o.dst (ft (.int k (k.wrap (0 - n)))))
  | _, _ => none
def xConv (P : Program) (o : Oper) (s : St) (t u : TypeId) (y : Operand) : Ex :=
  match convX P t u (s.ev y) with
  | some v => some (opK y, True, dU o.dst (ft v))
  | none => none
def xLen (P : Program) (o : Oper) (s : St) (t : TypeId) (y : Operand) : Ex :=
  match s.ev y with
  | .c (.im (.flat (.string b))) => (match P.underlying t with
    | some .string => some (opK y, True, dU o.dst (ft (.int .i64 (b.size : Int))))
    | _ => none)
  | .c c => (match EL P t with
    | some e => (match s.len e c with
      | some n => some (opK y ++ cellK c, True, dU o.dst (ft (.int .i64 (n : Int))))
      | none => none)
    | none => none)
  | _ => none
def xElem (P : Program) (o : Oper) (s : St) (t : TypeId) (y z : Operand) : Ex :=
  match s.ev y, s.ev z, EL P t with
  | .c c, .c (.im (.flat (.int _ i))), some e => (match EInfo P e with
    | some (sz, _) => (match s.elemAt e sz i.toNat c with
      | some d => some (opK y ++ opK z ++ cellK c, 0 ≤ i, dU o.dst (.c d))
      | none => none)
    | none => none)
  | _, _, _ => none
def xIndexS (P : Program) (o : Oper) (s : St) (t : TypeId) (y z : Operand) : Ex :=
  match s.ev y, s.ev z, P.underlying t with
  | .c (.im (.flat (.string b))), .c (.im (.flat (.int _ i))), some .string => some (opK y ++ opK z, 0 ≤ i ∧ i < b.size, dU o.dst (ft (.int .u8 ((b.toList.getD i.toNat 0).toNat : Int))))
  | _, _, _ => none
def xCut (P : Program) (o : Oper) (s : St) (t : TypeId) (y : Operand) (lo hi : Option Operand) : Ex :=
  match bnd s lo, bnd s hi with
  | some l, some u => (match s.ev y with
    | .c (.im (.flat (.string b))) => (match P.underlying t with
      | some .string => some (opK y ++ optK lo ++ optK hi, cutOk l u b.size, dU o.dst (ft (.string (b.extract (l.getD 0).toNat (u.getD b.size).toNat))))
      | _ => none)
    | .c c => (match EL P t with
      | some e => (match EInfo P e, s.len e c with
        | some (sz, _), some n => (match Nat.blt 0 sz with
          | true => (match s.cut e sz (l.getD 0).toNat (u.getD n).toNat c with
            | some d => some (opK y ++ optK lo ++ optK hi ++ cellK c, cutOk l u n, dU o.dst (.c d))
            | none => none)
          | false => none)
        | _, _ => none)
      | none => none)
    | _ => none)
  | _, _ => none
def xAppend (P : Program) (k : Nat) (o : Oper) (s : St) (t : TypeId) (y z : Operand) : Ex :=
  match EL P t with
  | some e => (match EInfo P e, ZV P e with
    | some (sz, bs), some zs => (match Nat.blt 0 sz && Nat.blt 0 bs && Nat.beq zs.length sz with
      | true => (match s.ev z with
        | .c c => (match s.src e sz c with
          | some ys => (match s.ev y with
            | .c (.ref r) => (match s.ob r with
              | some (.row e' xs) => (match Nat.beq e e' with
                | true => some (opK y ++ opK z ++ [.h r] ++ cellK c, (xs.length + ys.length) * bs ≤ 140737488355328, .del r :: .new k (.row e (xs ++ ys)) :: dU o.dst (.c (.ref k)))
                | false => none)
              | _ => none)
            | .c (.im (.flat (.slice none 0 0))) => some (opK y ++ opK z ++ cellK c, ys.length * bs ≤ 140737488355328, .new k (.row e ys) :: dU o.dst (.c (.ref k)))
            | _ => none)
          | none => none)
        | _ => none)
      | false => none)
    | _, _ => none)
  | none => none
def kindOf : TV → Option IntKind
  | .c (.im (.flat (.int k _))) => some k
  | _ => none
def xExt (o : Oper) (s : St) (mx : Bool) (ys : List Operand) : Ex :=
  match ys with
  | [] => none
  | y :: r => (match kindOf (s.ev y) with
    | some k => (match intsOf s k (y :: r) with
      | some (n :: l) => some (opsK (y :: r), True, dU o.dst (ft (.int k (match mx with | true => maxL n l | false => minL n l))))
      | _ => none)
    | none => none)
def xFunc (o : Oper) (s : St) (f : Nat) (ys : List Operand) : Ex :=
  match capsOf s ys with
  | some l => some (opsK ys, True, dU o.dst (.c (.clo f l)))
  | none => none
def exec1 (P : Program) (k : Nat) (o : Oper) (s : St) : Ex :=
  match dstOk o.dst s.nt with
  | false => none
  | true => (match o.op with
    | .move y => some (opK y, True, dU o.dst (s.ev y))
    | .assign y => some (opK y, True, dU o.dst (s.ev y))
    | .alloc t => (match ZV P t with
      | some zs => some ([], True, .new k (.box t (zs.map fun v => .im (.flat v))) :: dU o.dst (.c (.ptr k 0)))
      | none => none)
    | .box t y => xBox k o s t y
    | .build t ps => xBuild P o s t ps.toList
    | .buildSlice t len ps => xLit P k o s t len ps.toList
    | .load t y => xLoad P o s t y
    | .store t y z => xStore P o s t y z
    | .fieldAddr t y f => xField P o s t y f
    | .nilCheck y => xNil o s y
    | .extract y j => xExtract o s y j
    | .pick c y z => xPick o s c y z
    | .binOp op t y z _ => xBin P o s op t y z
    | .unOp op _ y => xUn o s op y
    | .convert t u y => xConv P o s t u y
    | .indexAddr t y z => xElem P o s t y z
    | .index t y z => xIndexS P o s t y z
    | .slice t y lo hi none => xCut P o s t y lo hi
    | .makeFunc (.func f) first ys => (match first.toList with
      | [] => xFunc o s f ys.toList
      | _ => none)
    | .call { callee := .builtin b, args, argTypes } => (match b, args.toList, argTypes.toList with
      | .len, [y], [t] => xLen P o s t y
      | .append, [y, z], [t, t'] => (match Nat.beq t t' with | true => xAppend P k o s t y z | false => none)
      | .max, ys, _ => xExt o s true ys
      | .min, ys, _ => xExt o s false ys
      | _, _, _ => none)
    | _ => none)
end Go.Exe
