/-
  AssemblyOrderless: at every story, every size and every order the law answers true: the fragments in another order, some of them twice, lead to equal assemblers, whose final records are those of the story.
-/
import Derived.Test.YtigenjeealkdlaaGreatM5
import Derived.Test.YtigenjeealkdlaaGreatM3
import Derived.Test.YtigenjeealkdlaaGreatM2
import Derived.Test.YtigenjeealkdlaaGreatM8
import Derived.Test.YtigenjeealkdlaaGreatM7
import Derived.Test.YtigenjeealkdlaaGreatRows
set_option linter.unusedVariables false
set_option linter.unusedSimpArgs false
set_option maxHeartbeats 8000000
set_option maxRecDepth 100000
namespace Go.Proofs.YtigenjeealkdlaaGreat
open Go.RowKit Go.Exe
/-! ### stories -/
structure Cal where
  pa : Nat
  cl : Nat
  ki : Nat
  se : Nat
  ve : Nat
  op : Nat
  wa : Nat
  lo : Nat
  li : Nat
  ta : Nat
  fa : Bool
structure Tre where
  slot : Nat
  start : Nat
  cs : List Cal
structure Sto where
  ts : List Tre
  o1 : Int
  o2 : Int
  o3 : Int
  o4 : Int
  sy : List (List AV)
  wr : Nat
def Cal.ok (c : Cal) : Prop := c.pa < 256 ∧ c.cl < 256 ∧ c.ki < 256 ∧ c.se < 256 ∧ c.ve < 256 ∧ c.op < 256 ∧ c.wa < 256 ∧ c.lo < 256 ∧ c.li < 256 ∧ c.ta < 256
def i8 (n : Int) : Prop := -128 ≤ n ∧ n ≤ 127
def Tre.ok (t : Tre) : Prop := t.slot < 256 ∧ t.start < 256 ∧ (∀ c ∈ t.cs, c.ok) ∧ t.cs.length ≤ 8
def Sto.ok (s : Sto) : Prop := (∀ t ∈ s.ts, t.ok) ∧ i8 s.o1 ∧ i8 s.o2 ∧ i8 s.o3 ∧ i8 s.o4 ∧ s.wr < 256 ∧ s.ts.length ≤ 3
def calA (c : Cal) : List AV := [.flat (.int .u8 (c.pa : Nat)), .flat (.int .u8 (c.cl : Nat)), .flat (.int .u8 (c.ki : Nat)), .flat (.int .u8 (c.se : Nat)), .flat (.int .u8 (c.ve : Nat)), .flat (.int .u8 (c.op : Nat)), .flat (.int .u8 (c.wa : Nat)), .flat (.int .u8 (c.lo : Nat)), .flat (.int .u8 (c.li : Nat)), .flat (.int .u8 (c.ta : Nat)), .flat (.bool c.fa)]
def treA (t : Tre) : List AV := [.flat (.int .u8 (t.slot : Nat)), .flat (.int .u8 (t.start : Nat)), .sl 125 (t.cs.map calA)]
def stoA (s : Sto) : List AV := [.sl 109 (s.ts.map treA), .flat (.int .i8 s.o1), .flat (.int .i8 s.o2), .flat (.int .i8 s.o3), .flat (.int .i8 s.o4), .sl 150 s.sy, .flat (.int .u8 (s.wr : Nat))]
abbrev calT (c : Cal) : TV := .g ((calA c).map .im)
abbrev treT (t : Tre) : TV := .g ((treA t).map .im)
abbrev stoT (s : Sto) : TV := .g ((stoA s).map .im)
/-- The first m trees have at most 8 calls. -/
def shortT (s : Sto) (m : Nat) : Bool := (s.ts.take m).all fun t => decide (t.cs.length ≤ 8)
def shortS (s : Sto) : Bool := shortT s s.ts.length && decide (s.ts.length ≤ 3) && decide (s.sy.length ≤ 6)
def tidN (s : Sto) (k : Nat) : Nat := match s.ts[k]? with | some t => (t.slot % 64) * 1048576 + 1 + k | none => 0
def kdC (c : Cal) : Nat := 1 + c.ki % 5
def offC (s : Sto) (clk : Nat) : Int := Int.tmod (if clk = 1 then s.o1 else if clk = 2 then s.o2 else if clk = 3 then s.o3 else s.o4) 21
/-! ### remainders of bytes -/
theorem tm (a b : Nat) : Int.tmod (a : Int) (b : Int) = ((a % b : Nat) : Int) := by
  rw [Int.tmod_eq_emod_of_nonneg (by omega)]; rfl
theorem td (a b : Nat) : Int.tdiv (a : Int) (b : Int) = ((a / b : Nat) : Int) := rfl
theorem tm2 (a : Nat) : Int.tmod (a : Int) 2 = ((a % 2 : Nat) : Int) := tm a 2
theorem tm3 (a : Nat) : Int.tmod (a : Int) 3 = ((a % 3 : Nat) : Int) := tm a 3
theorem tm4 (a : Nat) : Int.tmod (a : Int) 4 = ((a % 4 : Nat) : Int) := tm a 4
theorem tm5 (a : Nat) : Int.tmod (a : Int) 5 = ((a % 5 : Nat) : Int) := tm a 5
theorem tm8 (a : Nat) : Int.tmod (a : Int) 8 = ((a % 8 : Nat) : Int) := tm a 8
theorem tm16 (a : Nat) : Int.tmod (a : Int) 16 = ((a % 16 : Nat) : Int) := tm a 16
theorem tm32 (a : Nat) : Int.tmod (a : Int) 32 = ((a % 32 : Nat) : Int) := tm a 32
theorem tm64 (a : Nat) : Int.tmod (a : Int) 64 = ((a % 64 : Nat) : Int) := tm a 64
theorem td4 (a : Nat) : Int.tdiv (a : Int) 4 = ((a / 4 : Nat) : Int) := td a 4
theorem td8 (a : Nat) : Int.tdiv (a : Int) 8 = ((a / 8 : Nat) : Int) := td a 8
theorem w64n (a : Nat) (h : a < 9223372036854775808) : IntKind.i64.wrap (a : Int) = (a : Int) := w64 (by omega) (by omega)
theorem w8n (a : Nat) (h : a < 256) : IntKind.u8.wrap (a : Int) = (a : Int) := by
  unfold IntKind.wrap; simp [IntKind.signed, IntKind.bits]; omega
attribute [local irreducible] W AX Run RunD AStep AOp AOpX AStB AStH AStG Fits PCall GCall PostG Post Stop
theorem short_c (s : Sto) : PCall Tryz.prog 32 [stoT s] (ft (.bool (shortS s))) := by
  simp only [stoT, stoA, List.map]
  refine PCall.intro (nt := 29) (rs := [.tmp 2]) Tryz.func32 rfl ⟨by kernel_rfl, by kernel_rfl, by kernel_rfl⟩ (by simp) ?_
  rintro ⟨P, w0, ok0, may, np, pblk⟩ rfl rfl
  repeat' (first | refine W.stop (id := 1) ?_ | refine W.seq fun K hK => ?_ | refine W.block ?_ | ((first | refine wR ?_ | refine wD ?_ | refine W.skip ?_ | refine W.exit ?_ | refine W.ret (Post.ret ?_) | refine aP ?_ | refine aF ?_); simp only [go_sem, reduceCtorEq]) | refine wT ?_ | refine wF ?_ | refine wC (fun h => ?_) (fun h => ?_) | refine iK ?_ | refine aI2 ?_ | (refine hK _ ?_; clear hK K) | clear hK K)
  refine Stop.out ?_
  refine W.lenX 0 0 rfl rfl tE109 fun hlen hbytes => ?_
  rw [maxLen_is] at hlen
  simp only [List.length_map] at hlen
  repeat' (first | refine W.seq fun K hK => ?_ | refine W.block ?_ | ((first | refine wR ?_ | refine wD ?_ | refine W.skip ?_ | refine W.exit ?_ | refine W.ret (Post.ret ?_) | refine aP ?_ | refine aF ?_); simp only [go_sem, reduceCtorEq]) | refine wT ?_ | refine wF ?_ | refine wC (fun h => ?_) (fun h => ?_) | refine iK ?_ | refine aI2 ?_ | (refine hK _ ?_; clear hK K) | clear hK K)
  refine W.loopF (T := fun i : Nat => { t := [(1, .c (.ptr 0 0)), (2, ft (.bool false)), (3, ft (.int .i64 (i : Nat)))], h := [(0, .box 57 ((stoA s).map .im))], nx := 1, ex := [], nt := 29 })
    (Inv := fun i => i ≤ s.ts.length ∧ shortT s i = true) (μ := fun i => s.ts.length - i) (x0 := 0) (Fits.fit [(0, 0)] [1, 2, 3] 1 rfl rfl Fits.rfl) ⟨Nat.zero_le _, by simp [shortT]⟩ ?_
  rintro i ⟨hi, hv⟩ KL hKL
  by_cases hlt : i < s.ts.length
  · obtain ⟨x, hx, hm, hd⟩ := drop_at hlt
    have e1 : decide ((i : Int) < s.ts.length) = true := by simp; omega
    have hw := w64s i (by omega)
    have hT : shortT s (i + 1) = (shortT s i && decide (x.cs.length ≤ 8)) := by simp [shortT, List.take_add_one, hx]
    cases h8 : decide ((x.cs.length : Int) > 8) with
    | true =>
      have hf : shortS s = false := by
        have : shortT s s.ts.length = false := by
          simp only [shortT, List.take_length, List.all_eq_false]
          exact ⟨x, hm, by simp at h8 ⊢; omega⟩
        simp [shortS, this]
      rw [hf]
      clear hKL
      simp only [stoA, List.map]
      repeat' (first | refine W.seq fun K hK => ?_ | refine W.block ?_ | ((first | refine wR ?_ | refine wD ?_ | refine W.skip ?_ | refine W.exit ?_ | refine W.ret (Post.ret ?_) | refine aP ?_ | refine aF ?_); simp only [go_sem, reduceCtorEq, List.getElem?_map, hx, treA, e1, hw, List.length_map, h8]) | refine wT ?_ | refine wF ?_ | refine wC (fun h => ?_) (fun h => ?_) | refine iK ?_ | refine aI2 ?_ | (refine hK _ ?_; clear hK K) | clear hK K)
    | false =>
      simp only [stoA, List.map] at hKL ⊢
      repeat' (first | refine W.seq fun K hK => ?_ | refine W.block ?_ | ((first | refine wR ?_ | refine wD ?_ | refine W.skip ?_ | refine W.exit ?_ | refine W.ret (Post.ret ?_) | refine aP ?_ | refine aF ?_); simp only [go_sem, reduceCtorEq, List.getElem?_map, hx, treA, e1, hw, List.length_map, h8]) | refine wT ?_ | refine wF ?_ | refine wC (fun h => ?_) (fun h => ?_) | refine iK ?_ | refine aI2 ?_ | (refine hK _ ?_; clear hK K) | clear hK K)
      refine hKL.to (i + 1) ⟨by omega, by rw [hT, hv]; simp at h8 ⊢; omega⟩ (by omega) (Fits.fit [(0, 0)] [1, 2, 3] 1 rfl rfl Fits.rfl)
  · obtain rfl : i = s.ts.length := by omega
    have e1 : decide ((s.ts.length : Int) < s.ts.length) = false := by simp
    clear hKL
    simp only [stoA, List.map]
    have e2 : decide ((s.ts.length : Int) ≤ 3) = decide (s.ts.length ≤ 3) := by congr 1; simp; omega
    have e3 : decide ((s.sy.length : Int) ≤ 6) = decide (s.sy.length ≤ 6) := by congr 1; simp; omega
    have hS : shortS s = (decide (s.ts.length ≤ 3) && decide (s.sy.length ≤ 6)) := by simp [shortS, hv]
    cases h3 : decide (s.ts.length ≤ 3) <;> (rw [h3] at e2 hS)
    · rw [Bool.false_and] at hS
      repeat' (first | refine W.seq fun K hK => ?_ | refine W.block ?_ | ((first | refine wR ?_ | refine wD ?_ | refine W.skip ?_ | refine W.exit ?_ | refine W.ret (Post.ret ?_) | refine aP ?_ | refine aF ?_); simp only [go_sem, reduceCtorEq, e1, List.length_map, e2, hS]) | refine wT ?_ | refine wF ?_ | refine wC (fun h => ?_) (fun h => ?_) | refine iK ?_ | refine aI2 ?_ | (refine hK _ ?_; clear hK K) | clear hK K)
    · rw [Bool.true_and] at hS
      repeat' (first | refine W.seq fun K hK => ?_ | refine W.block ?_ | ((first | refine wR ?_ | refine wD ?_ | refine W.skip ?_ | refine W.exit ?_ | refine W.ret (Post.ret ?_) | refine aP ?_ | refine aF ?_); simp only [go_sem, reduceCtorEq, e1, List.length_map, e2, e3, hS]) | refine wT ?_ | refine wF ?_ | refine wC (fun h => ?_) (fun h => ?_) | refine iK ?_ | refine aI2 ?_ | (refine hK _ ?_; clear hK K) | clear hK K)
theorem tid_c (s : Sto) (hs : s.ok) (k : Nat) (hk : k < s.ts.length) : PCall Tryz.prog 74 [stoT s, ft (.int .i64 (k : Nat))] (ft (.int .i64 (tidN s k : Nat))) := by
  obtain ⟨t, hx, hm, hd⟩ := drop_at hk
  have hl := hs.2.2.2.2.2.2
  have q1 := w64n (t.slot % 64) (by omega)
  have q2 : IntKind.i64.wrap (((t.slot % 64 : Nat) : Int) * 2 ^ min (Int.toNat 20) 64) = (((t.slot % 64) * 1048576 : Nat) : Int) := by rw [show (((t.slot % 64 : Nat) : Int) * 2 ^ min (Int.toNat 20) 64) = (((t.slot % 64) * 1048576 : Nat) : Int) by rw [Int.natCast_mul]; rfl]; exact w64n _ (by omega)
  have q3 : IntKind.i64.wrap ((((t.slot % 64) * 1048576 : Nat) : Int) + 1) = (((t.slot % 64) * 1048576 + 1 : Nat) : Int) := w64n ((t.slot % 64) * 1048576 + 1) (by omega)
  have q4 : IntKind.i64.wrap ((((t.slot % 64) * 1048576 + 1 : Nat) : Int) + (k : Nat)) = (((t.slot % 64) * 1048576 + 1 + k : Nat) : Int) := w64n ((t.slot % 64) * 1048576 + 1 + k) (by have := Nat.mod_lt t.slot (show 0 < 64 by omega); omega)
  have e1 : tidN s k = (t.slot % 64) * 1048576 + 1 + k := by simp [tidN, hx]
  rw [e1]
  simp only [stoT, stoA, List.map]
  refine PCall.intro (nt := 17) (rs := [.tmp 4]) Tryz.func74 rfl ⟨by kernel_rfl, by kernel_rfl, by kernel_rfl⟩ (by simp) ?_
  rintro ⟨P, w0, ok0, may, np, pblk⟩ rfl rfl
  repeat' (first | refine W.seq fun K hK => ?_ | refine W.block ?_ | ((first | refine wR ?_ | refine wD ?_ | refine W.skip ?_ | refine W.exit ?_ | refine W.ret (Post.ret ?_) | refine aP ?_ | refine aF ?_ | refine aI ?_); simp only [go_sem, reduceCtorEq, List.getElem?_map, hx, treA, tm64, q1, q2, q3, q4]) | refine wT ?_ | refine wF ?_ | refine wC (fun h => ?_) (fun h => ?_) | refine iK ?_ | refine aI2 ?_ | (refine hK _ ?_; clear hK K) | clear hK K)
theorem kind_c (c : Cal) : PCall Tryz.prog 159 [calT c] (ft (.int .i64 (kdC c : Nat))) := by
  have q1 := w64n (c.ki % 5) (by omega)
  have q2 : IntKind.i64.wrap (1 + ((c.ki % 5 : Nat) : Int)) = (kdC c : Nat) := w64n (1 + c.ki % 5) (by omega)
  simp only [calT, calA, List.map]
  refine PCall.intro (nt := 8) (rs := [.tmp 2]) Tryz.func159 rfl ⟨by kernel_rfl, by kernel_rfl, by kernel_rfl⟩ (by simp) ?_
  rintro ⟨P, w0, ok0, may, np, pblk⟩ rfl rfl
  repeat' (first | refine W.seq fun K hK => ?_ | refine W.block ?_ | ((first | refine wR ?_ | refine wD ?_ | refine W.skip ?_ | refine W.exit ?_ | refine W.ret (Post.ret ?_) | refine aP ?_ | refine aF ?_); simp only [go_sem, reduceCtorEq, tm5, q1, q2]) | refine wT ?_ | refine wF ?_ | refine wC (fun h => ?_) (fun h => ?_) | refine iK ?_ | refine aI2 ?_ | (refine hK _ ?_; clear hK K) | clear hK K)
theorem off_c (s : Sto) (hs : s.ok) (clk : Nat) (h1 : 1 ≤ clk) (h4 : clk ≤ 4) : PCall Tryz.prog 94 [stoT s, ft (.int .i64 (clk : Nat))] (ft (.int .i64 (offC s clk))) := by
  have hA : Tryz.prog.underlying 54 = some (.array 4 53) := by kernel_rfl
  have hE := tE53
  simp only [stoT, stoA, List.map]
  have g : ∀ n : Int, i8 n → IntKind.i64.wrap n = n := fun n hn => w64 (by unfold i8 at hn; omega) (by unfold i8 at hn; omega)
  obtain ⟨_, g1, g2, g3, g4, _⟩ := hs
  have g1 := g _ g1
  have g2 := g _ g2
  have g3 := g _ g3
  have g4 := g _ g4
  clear g
  rcases (by omega : clk = 1 ∨ clk = 2 ∨ clk = 3 ∨ clk = 4) with rfl | rfl | rfl | rfl
  ·
    have hN : EL Tryz.prog 54 = none := by kernel_rfl
    have hm : Int.tmod (IntKind.u64.wrap (IntKind.u64.wrap ((1 : Nat) : Int) + 3)) 4 = 0 := by decide
    have hx : 1 + Int.toNat 0 * 1 = 1 := (rfl)
    have ho : offC s 1 = Int.tmod s.o1 21 := rfl
    refine PCall.intro (nt := 14) (rs := [.tmp 4]) Tryz.func94 rfl ⟨by kernel_rfl, by kernel_rfl, by kernel_rfl⟩ (by simp) ?_
    rintro ⟨P, w0, ok0, may, np, pblk⟩ rfl rfl
    repeat' (first | refine W.seq fun K hK => ?_ | refine W.block ?_ | ((first | refine wR ?_ | refine wD ?_ | refine W.skip ?_ | refine W.exit ?_ | refine W.ret (Post.ret ?_) | refine aP ?_ | refine aF ?_ | refine aV ?_); simp only [go_sem, reduceCtorEq, ho, g1, g2, g3, g4, hm, hN, hx]) | refine wT ?_ | refine wF ?_ | refine wC (fun h => ?_) (fun h => ?_) | refine iK ?_ | refine aI2 ?_ | (refine hK _ ?_; clear hK K) | clear hK K)
  ·
    have hN : EL Tryz.prog 54 = none := by kernel_rfl
    have hm : Int.tmod (IntKind.u64.wrap (IntKind.u64.wrap ((2 : Nat) : Int) + 3)) 4 = 1 := by decide
    have hx : 1 + Int.toNat 1 * 1 = 2 := (rfl)
    have ho : offC s 2 = Int.tmod s.o2 21 := rfl
    refine PCall.intro (nt := 14) (rs := [.tmp 4]) Tryz.func94 rfl ⟨by kernel_rfl, by kernel_rfl, by kernel_rfl⟩ (by simp) ?_
    rintro ⟨P, w0, ok0, may, np, pblk⟩ rfl rfl
    repeat' (first | refine W.seq fun K hK => ?_ | refine W.block ?_ | ((first | refine wR ?_ | refine wD ?_ | refine W.skip ?_ | refine W.exit ?_ | refine W.ret (Post.ret ?_) | refine aP ?_ | refine aF ?_ | refine aV ?_); simp only [go_sem, reduceCtorEq, ho, g1, g2, g3, g4, hm, hN, hx]) | refine wT ?_ | refine wF ?_ | refine wC (fun h => ?_) (fun h => ?_) | refine iK ?_ | refine aI2 ?_ | (refine hK _ ?_; clear hK K) | clear hK K)
  ·
    have hN : EL Tryz.prog 54 = none := by kernel_rfl
    have hm : Int.tmod (IntKind.u64.wrap (IntKind.u64.wrap ((3 : Nat) : Int) + 3)) 4 = 2 := by decide
    have hx : 1 + Int.toNat 2 * 1 = 3 := (rfl)
    have ho : offC s 3 = Int.tmod s.o3 21 := rfl
    refine PCall.intro (nt := 14) (rs := [.tmp 4]) Tryz.func94 rfl ⟨by kernel_rfl, by kernel_rfl, by kernel_rfl⟩ (by simp) ?_
    rintro ⟨P, w0, ok0, may, np, pblk⟩ rfl rfl
    repeat' (first | refine W.seq fun K hK => ?_ | refine W.block ?_ | ((first | refine wR ?_ | refine wD ?_ | refine W.skip ?_ | refine W.exit ?_ | refine W.ret (Post.ret ?_) | refine aP ?_ | refine aF ?_ | refine aV ?_); simp only [go_sem, reduceCtorEq, ho, g1, g2, g3, g4, hm, hN, hx]) | refine wT ?_ | refine wF ?_ | refine wC (fun h => ?_) (fun h => ?_) | refine iK ?_ | refine aI2 ?_ | (refine hK _ ?_; clear hK K) | clear hK K)
  ·
    have hN : EL Tryz.prog 54 = none := by kernel_rfl
    have hm : Int.tmod (IntKind.u64.wrap (IntKind.u64.wrap ((4 : Nat) : Int) + 3)) 4 = 3 := by decide
    have hx : 1 + Int.toNat 3 * 1 = 4 := (rfl)
    have ho : offC s 4 = Int.tmod s.o4 21 := rfl
    refine PCall.intro (nt := 14) (rs := [.tmp 4]) Tryz.func94 rfl ⟨by kernel_rfl, by kernel_rfl, by kernel_rfl⟩ (by simp) ?_
    rintro ⟨P, w0, ok0, may, np, pblk⟩ rfl rfl
    repeat' (first | refine W.seq fun K hK => ?_ | refine W.block ?_ | ((first | refine wR ?_ | refine wD ?_ | refine W.skip ?_ | refine W.exit ?_ | refine W.ret (Post.ret ?_) | refine aP ?_ | refine aF ?_ | refine aV ?_); simp only [go_sem, reduceCtorEq, ho, g1, g2, g3, g4, hm, hN, hx]) | refine wT ?_ | refine wF ?_ | refine wC (fun h => ?_) (fun h => ?_) | refine iK ?_ | refine aI2 ?_ | (refine hK _ ?_; clear hK K) | clear hK K)
end Go.Proofs.YtigenjeealkdlaaGreat
namespace Go.Proofs.YtigenjeealkdlaaGreat
open Go.RowKit Go.Exe
def zoneS (n : Nat) : ByteArray := if n = 0 then ⟨#[97]⟩ else if n = 1 then ⟨#[98]⟩ else ⟨#[119, 101, 115, 116, 32, 49]⟩
def attsC (c : Cal) : List Att := [⟨⟨#[111, 107]⟩, 3, .empty, ((c.ta / 4 % 2 : Nat) : Int)⟩, ⟨⟨#[115, 105, 122, 101]⟩, 2, .empty, (c.ta : Int) - 100⟩, ⟨⟨#[122, 111, 110, 101]⟩, 1, zoneS (c.ta / 8 % 3), 0⟩].take (c.ta % 4)
attribute [local irreducible] W AX Run RunD AStep AOp AOpX AStB AStH AStG Fits PCall GCall PostG Post Stop
theorem sattrs_c (c : Cal) (hc : c.ok) : PCall Tryz.prog 160 [calT c] (.c (.im (.sl 134 ((attsC c).map attA)))) := by
  have hta : c.ta < 256 := hc.2.2.2.2.2.2.2.2.2
  have q1 := w64n (c.ta / 4 % 2) (by omega)
  have q2 := w64n c.ta (by omega)
  have q4 := w8n (c.ta / 4) (by omega)
  have q5 := w8n (c.ta / 8) (by omega)
  have q3 : IntKind.i64.wrap ((c.ta : Int) - 100) = (c.ta : Int) - 100 := w64 (by omega) (by omega)
  have s1 : ([[.im (.flat (.string ⟨#[97]⟩))], [.im (.flat (.string ⟨#[98]⟩))], [.im (.flat (.string ⟨#[119, 101, 115, 116, 32, 49]⟩))]] : List (List Cell))[c.ta / 8 % 3]? = some [.im (.flat (.string (zoneS (c.ta / 8 % 3))))] := by
    rcases (by omega : c.ta / 8 % 3 = 0 ∨ c.ta / 8 % 3 = 1 ∨ c.ta / 8 % 3 = 2) with h | h | h <;> simp [h, zoneS]
  have d1 : decide (c.ta / 8 % 3 < 3) = true := by simp; omega
  simp only [calT, calA, List.map]
  rcases (by omega : c.ta % 4 = 0 ∨ c.ta % 4 = 1 ∨ c.ta % 4 = 2 ∨ c.ta % 4 = 3) with h | h | h | h
  all_goals
    simp only [attsC, h, List.take_succ_cons, List.take_zero, List.map_cons, List.map_nil, attA]
    refine PCall.intro (nt := 32) (rs := [.tmp 2]) Tryz.func160 rfl ⟨by kernel_rfl, by kernel_rfl, by kernel_rfl⟩ (by simp) ?_
    rintro ⟨P, w0, ok0, may, np, pblk⟩ rfl rfl
    repeat' (first | refine W.seq fun K hK => ?_ | refine W.block ?_ | ((first | refine wR ?_ | refine wD ?_ | refine W.skip ?_ | refine W.exit ?_ | refine W.ret (Post.ret ?_) | refine aP ?_ | refine aF ?_); simp only [go_sem, reduceCtorEq, td4, td8, tm2, tm3, tm4, q1, q2, q3, q4, q5, s1, d1, h]) | refine wT ?_ | refine wF ?_ | refine wC (fun h => ?_) (fun h => ?_) | refine iK ?_ | refine aI2 ?_ | (refine hK _ ?_; clear hK K) | clear hK K)
end Go.Proofs.YtigenjeealkdlaaGreat
namespace Go.Proofs.YtigenjeealkdlaaGreat
open Go.RowKit Go.Exe
def nA (n : Nat) : List AV := [.flat (.int .i64 (n : Nat))]
abbrev natsT (l : List Nat) : TV := .c (.im (.sl 3 (l.map nA)))
/-- The true start of the call with an index, if those before it are known. -/
def frm (t : Tre) (c : Cal) (i : Nat) (st : List Nat) : Nat := (if c.pa % (i + 1) < i then st.getD (c.pa % (i + 1)) 0 else 1000 + t.start % 32) + (if 0 < i then c.wa % 32 else 0)
def stF (t : Tre) : Nat → List Nat
  | 0 => []
  | i + 1 => stF t i ++ (t.cs[i]?.toList.map fun c => frm t c i (stF t i))
def enF (t : Tre) : Nat → List Nat
  | 0 => []
  | i + 1 => enF t i ++ (t.cs[i]?.toList.map fun c => frm t c i (stF t i) + c.lo % 32)
theorem stF_at {t : Tre} {i : Nat} {c : Cal} (h : t.cs[i]? = some c) : stF t (i + 1) = stF t i ++ [frm t c i (stF t i)] := by simp [stF, h]
theorem enF_at {t : Tre} {i : Nat} {c : Cal} (h : t.cs[i]? = some c) : enF t (i + 1) = enF t i ++ [frm t c i (stF t i) + c.lo % 32] := by simp [enF, h]
theorem stF_len (t : Tre) : ∀ i, i ≤ t.cs.length → (stF t i).length = i
  | 0, _ => rfl
  | i + 1, h => by simp [stF, stF_len t i (by omega), List.getElem?_eq_getElem (show i < t.cs.length by omega)]
theorem enF_len (t : Tre) : ∀ i, i ≤ t.cs.length → (enF t i).length = i
  | 0, _ => rfl
  | i + 1, h => by simp [enF, enF_len t i (by omega), List.getElem?_eq_getElem (show i < t.cs.length by omega)]
theorem stF_le (t : Tre) : ∀ i, i ≤ t.cs.length → ∀ x ∈ stF t i, x ≤ 1031 + 31 * i
  | 0, _, x, hx => by simp [stF] at hx
  | i + 1, h, x, hx => by
    have ih := stF_le t i (by omega)
    rw [stF_at (List.getElem?_eq_getElem (show i < t.cs.length by omega))] at hx
    rcases List.mem_append.1 hx with hx | hx
    · have := ih x hx; omega
    · simp only [List.mem_singleton] at hx
      subst hx
      unfold frm
      have h1 : (stF t i).getD (t.cs[i].pa % (i + 1)) 0 ≤ 1031 + 31 * i := by
        rw [List.getD_eq_getElem?_getD]
        cases e : (stF t i)[t.cs[i].pa % (i + 1)]? with
        | none => simp
        | some y => exact ih y (List.mem_of_getElem? e)
      repeat' split
      all_goals omega
theorem enF_le (t : Tre) : ∀ i, i ≤ t.cs.length → ∀ x ∈ enF t i, x ≤ 1062 + 31 * i
  | 0, _, x, hx => by simp [enF] at hx
  | i + 1, h, x, hx => by
    have hc := List.getElem?_eq_getElem (show i < t.cs.length by omega)
    rw [enF_at hc] at hx
    rcases List.mem_append.1 hx with hx | hx
    · have := enF_le t i (by omega) x hx; omega
    · simp only [List.mem_singleton] at hx
      have := stF_le t (i + 1) h (frm t t.cs[i] i (stF t i)) (by rw [stF_at hc]; simp)
      omega
/-- A client without an error waits for its servers. -/
def waits (t : Tre) (i : Nat) : Bool := match t.cs[i]? with
  | some c => (match t.cs[c.pa % (i + 1)]? with
    | some d => decide (c.pa % (i + 1) < i) && decide (kdC c = 3) && decide (kdC d = 2) && !d.fa
    | none => false)
  | none => false
def parN (t : Tre) (i : Nat) : Nat := match t.cs[i]? with | some c => c.pa % (i + 1) | none => 0
def stepE (t : Tre) (L : List Nat) (i : Nat) : List Nat := if waits t i then L.set (parN t i) (max (L.getD (parN t i) 0) (L.getD i 0)) else L
def enG (t : Tre) : Nat → List Nat → List Nat
  | 0, L => L
  | i + 1, L => enG t i (stepE t L (i + 1))
def stL (t : Tre) : List Nat := stF t t.cs.length
def enL (t : Tre) : List Nat := enG t (t.cs.length - 1) (enF t t.cs.length)
theorem wadd (a b : Nat) (h : a + b < 9223372036854775808) : IntKind.i64.wrap ((a : Int) + (b : Int)) = ((a + b : Nat) : Int) := by rw [← Int.natCast_add]; exact w64n _ h
attribute [local irreducible] W AX Run RunD AStep AOp AOpX AStB AStH AStG Fits PCall GCall PostG Post Stop
theorem times_c (t : Tre) (ht : t.ok) (h0 : 0 < t.cs.length) : PCall Tryz.prog 150 [treT t] (.t [(false, [.im (.sl 3 ((stL t).map nA))]), (false, [.im (.sl 3 ((enL t).map nA))])]) := by
  have h8 := ht.2.2.2
  have ck := kind_c
  simp only [treT, treA, List.map]
  refine PCall.intro (nt := 123) (rs := [.tmp 2, .tmp 3]) Tryz.func150 rfl ⟨by kernel_rfl, by kernel_rfl, by kernel_rfl⟩ (by simp) ?_
  rintro ⟨P, w0, ok0, may, np, pblk⟩ rfl rfl
  repeat' (first | refine W.seq fun K hK => ?_ | refine W.block ?_ | ((first | refine wR ?_ | refine wD ?_ | refine W.skip ?_ | refine W.exit ?_ | refine W.ret (Post.ret ?_) | refine aP ?_ | refine aF ?_); simp only [go_sem, reduceCtorEq]) | refine wT ?_ | refine wF ?_ | refine wC (fun h => ?_) (fun h => ?_) | refine iK ?_ | refine aI2 ?_ | (refine hK _ ?_; clear hK K) | clear hK K)
  refine W.loopF (T := fun i : Nat => { t := [(1, .c (.ptr 0 0)), (2, .c (.ref 1)), (3, .c (.ref 2)), (4, ft (.int .i64 (i : Nat)))], h := [(0, .box 109 ((treA t).map .im)), (1, .row 3 (imR ((stF t i).map nA))), (2, .row 3 (imR ((enF t i).map nA)))], nx := 3, ex := [], nt := 123 })
    (Inv := fun i => i ≤ t.cs.length) (μ := fun i => t.cs.length - i) (x0 := 0) ?_ (Nat.zero_le _) ?_
  · refine Fits.adopt 2 98 3 rfl rfl rfl tE3 rfl ?_
    refine Fits.adopt 3 99 3 rfl rfl rfl tE3 rfl ?_
    refine Fits.fit [(0, 0), (98, 1), (99, 2)] [1, 2, 3, 4] 3 rfl rfl ?_
    simp only [go_sem, stF, enF, List.map_nil, imR_nil]
    exact Fits.rfl
  rintro i hi KL hKL
  by_cases hlt : i < t.cs.length
  · obtain ⟨x, hx, hm, hd⟩ := drop_at hlt
    have hxo := ht.2.2.1 x hm
    obtain ⟨b1, b2, b3, b4, b5, b6, b7, b8, b9, b10⟩ := hxo
    have e1 : decide ((i : Int) < t.cs.length) = true := by simp; omega
    have hw := w64s i (by omega)
    have q1 := w64n (t.start % 32) (by omega)
    have q2 : IntKind.i64.wrap (1000 + ((t.start % 32 : Nat) : Int)) = ((1000 + t.start % 32 : Nat) : Int) := wadd 1000 (t.start % 32) (by omega)
    have q3 := w64n x.pa (by omega)
    have q4 : Int.tmod (x.pa : Int) ((i + 1 : Nat) : Int) = ((x.pa % (i + 1) : Nat) : Int) := tm _ _
    have q5 := w64n (x.wa % 32) (by omega)
    have q6 := w64n (x.lo % 32) (by omega)
    have sl := stF_len t i hi
    have el := enF_len t i hi
    have hat1 := stF_at hx
    have hat2 := enF_at hx
    have bl : ∀ F : Nat, imR ((stF t i ++ [F]).map nA) = imR ((stF t i).map nA) ++ [[.im (.flat (.int .i64 (F : Nat)))]] := fun F => by simp [imR, imL, nA]
    have bl2 : ∀ F : Nat, imR ((enF t i ++ [F]).map nA) = imR ((enF t i).map nA) ++ [[.im (.flat (.int .i64 (F : Nat)))]] := fun F => by simp [imR, imL, nA]
    clear ck
    simp only [treA, List.map] at hKL ⊢
    by_cases hp : x.pa % (i + 1) < i
    · have hvl : x.pa % (i + 1) < (stF t i).length := by omega
      have hv : (stF t i)[x.pa % (i + 1)]? = some (stF t i)[x.pa % (i + 1)] := List.getElem?_eq_getElem hvl
      have hvb := stF_le t i hi _ (List.mem_of_getElem? hv)
      generalize (stF t i)[x.pa % (i + 1)] = v at hv hvb
      have hF : frm t x i (stF t i) = v + x.wa % 32 := by simp [frm, hp, show 0 < i by omega, hv]
      rw [hF] at hat1
      rw [hF] at hat2
      have e2 : decide (((x.pa % (i + 1) : Nat) : Int) < i) = true := decide_eq_true (Int.ofNat_lt.2 hp)
      have e3 : decide ((i : Int) > 0) = true := by simp; omega
      have e4 : decide (x.pa % (i + 1) < i) = true := by simp; omega
      have q7 := wadd (v) (x.wa % 32) (by omega)
      have q8 := wadd (v + x.wa % 32) (x.lo % 32) (by omega)
      repeat' (first | refine W.seq fun K hK => ?_ | refine W.block ?_ | ((first | refine wR ?_ | refine wD ?_ | refine W.skip ?_ | refine W.exit ?_ | refine W.ret (Post.ret ?_) | refine aP ?_ | refine aF ?_); simp only [go_sem, reduceCtorEq, List.getElem?_map, hx, calA, e1, hw, List.length_map, imR_len, tm32, q1, q2, q3, q4, q5, q6, e2, e3, e4, sl, el, hv, nA, imL, q7, q8]) | refine wT ?_ | refine wF ?_ | refine wC (fun h => ?_) (fun h => ?_) | refine iK ?_ | refine aI2 ?_ | (refine hK _ ?_; clear hK K) | clear hK K)
      refine hKL.to (i + 1) (by omega) (by omega) (Fits.fit [(0, 0), (48, 1), (57, 2)] [1, 2, 3, 4] 3 rfl rfl ?_)
      simp only [go_sem, hat1, hat2, bl, bl2]
      exact Fits.rfl
    · have e2 : decide (((x.pa % (i + 1) : Nat) : Int) < i) = false := decide_eq_false fun h => hp (Int.ofNat_lt.1 h)
      by_cases h0 : 0 < i
      · have e3 : decide ((i : Int) > 0) = true := by simp; omega
        have hF : frm t x i (stF t i) = 1000 + t.start % 32 + x.wa % 32 := by simp [frm, hp, h0]
        rw [hF] at hat1 hat2
        have q7 := wadd (1000 + t.start % 32) (x.wa % 32) (by omega)
        have q8 := wadd (1000 + t.start % 32 + x.wa % 32) (x.lo % 32) (by omega)
        repeat' (first | refine W.seq fun K hK => ?_ | refine W.block ?_ | ((first | refine wR ?_ | refine wD ?_ | refine W.skip ?_ | refine W.exit ?_ | refine W.ret (Post.ret ?_) | refine aP ?_ | refine aF ?_); simp only [go_sem, reduceCtorEq, List.getElem?_map, hx, calA, e1, hw, List.length_map, imR_len, tm32, q1, q2, q3, q4, q5, q6, e2, e3, sl, el, nA, imL, q7, q8]) | refine wT ?_ | refine wF ?_ | refine wC (fun h => ?_) (fun h => ?_) | refine iK ?_ | refine aI2 ?_ | (refine hK _ ?_; clear hK K) | clear hK K)
        refine hKL.to (i + 1) (by omega) (by omega) (Fits.fit [(0, 0), (43, 1), (52, 2)] [1, 2, 3, 4] 3 rfl rfl ?_)
        simp only [go_sem, hat1, hat2, bl, bl2]
        exact Fits.rfl
      · have e3 : decide ((i : Int) > 0) = false := by simp; omega
        have hF : frm t x i (stF t i) = 1000 + t.start % 32 := by simp [frm, hp, h0]
        rw [hF] at hat1 hat2
        have q8 := wadd (1000 + t.start % 32) (x.lo % 32) (by omega)
        repeat' (first | refine W.seq fun K hK => ?_ | refine W.block ?_ | ((first | refine wR ?_ | refine wD ?_ | refine W.skip ?_ | refine W.exit ?_ | refine W.ret (Post.ret ?_) | refine aP ?_ | refine aF ?_); simp only [go_sem, reduceCtorEq, List.getElem?_map, hx, calA, e1, hw, List.length_map, imR_len, tm32, q1, q2, q3, q4, q5, q6, e2, e3, sl, el, nA, imL, q8]) | refine wT ?_ | refine wF ?_ | refine wC (fun h => ?_) (fun h => ?_) | refine iK ?_ | refine aI2 ?_ | (refine hK _ ?_; clear hK K) | clear hK K)
        refine hKL.to (i + 1) (by omega) (by omega) (Fits.fit [(0, 0), (36, 1), (45, 2)] [1, 2, 3, 4] 3 rfl rfl ?_)
        simp only [go_sem, hat1, hat2, bl, bl2]
        exact Fits.rfl
  obtain rfl : i = t.cs.length := by omega
  have e1 : decide ((t.cs.length : Int) < t.cs.length) = false := by simp
  clear hKL
  have e2 : IntKind.i64.wrap ((t.cs.length : Int) - 1) = ((t.cs.length - 1 : Nat) : Int) := by rw [w64 (by omega) (by omega)]; omega
  have hsl := stF_len t _ hi
  simp only [treA, List.map]
  repeat' (first | refine W.seq fun K hK => ?_ | refine W.block ?_ | ((first | refine wR ?_ | refine wD ?_ | refine W.skip ?_ | refine W.exit ?_ | refine W.ret (Post.ret ?_) | refine aP ?_ | refine aF ?_); simp only [go_sem, reduceCtorEq, e1, List.length_map, e2]) | refine wT ?_ | refine wF ?_ | refine wC (fun h => ?_) (fun h => ?_) | refine iK ?_ | refine aI2 ?_ | (refine hK _ ?_; clear hK K) | clear hK K)
  refine W.loopF (T := fun p : Nat × List Nat => { t := [(1, .c (.ptr 0 0)), (2, .c (.ref 1)), (3, .c (.ref 2)), (8, ft (.int .i64 (p.1 : Nat)))], h := [(0, .box 109 ((treA t).map .im)), (1, .row 3 (imR ((stL t).map nA))), (2, .row 3 (imR (p.2.map nA)))], nx := 3, ex := [], nt := 123 })
    (Inv := fun p => p.1 ≤ t.cs.length - 1 ∧ p.2.length = t.cs.length ∧ (∀ x ∈ p.2, x ≤ 2000) ∧ enG t p.1 p.2 = enL t) (μ := fun p => p.1) (x0 := (t.cs.length - 1, enF t t.cs.length)) (Fits.fit [(0, 0), (1, 1), (2, 2)] [1, 2, 3, 8] 3 rfl rfl ?_) ⟨Nat.le_refl _, enF_len t _ hi, fun x hx => by have := enF_le t _ hi x hx; omega, rfl⟩ ?_
  · simp only [go_sem, treA, stL, List.map]
    exact Fits.rfl
  rintro ⟨n, L⟩ ⟨hn, hl, hb, hinv⟩ KL hKL
  dsimp only at hn hl hb hinv hKL ⊢
  rcases n with _ | m
  · have e3 : decide (((0 : Nat) : Int) > 0) = false := by simp
    have hL : L = enL t := hinv
    subst hL
    clear hKL
    repeat' (first | refine W.seq fun K hK => ?_ | refine W.block ?_ | ((first | refine wR ?_ | refine wD ?_ | refine W.skip ?_ | refine W.exit ?_ | refine W.ret (Post.ret ?_) | refine aP ?_ | refine aF ?_); simp only [go_sem, reduceCtorEq, e3]) | refine wT ?_ | refine wF ?_ | refine wC (fun h => ?_) (fun h => ?_) | refine iK ?_ | refine aI2 ?_ | (refine hK _ ?_; clear hK K) | clear hK K)
  have e3 : decide (((m + 1 : Nat) : Int) > 0) = true := by simp
  obtain ⟨c, hc, hcm, _⟩ := drop_at (show m + 1 < t.cs.length by omega)
  have hq : c.pa % (m + 1 + 1) < t.cs.length := by have := Nat.mod_lt c.pa (show 0 < m + 1 + 1 by omega); omega
  obtain ⟨d, hdq, hdm, _⟩ := drop_at hq
  obtain ⟨b1, -⟩ := ht.2.2.1 c hcm
  have r1 := w64n c.pa (by omega)
  have r2 := w64s (m + 1) (by omega)
  have r3 : Int.tmod (c.pa : Int) ((m + 1 + 1 : Nat) : Int) = ((c.pa % (m + 1 + 1) : Nat) : Int) := tm _ _
  have r4 : IntKind.i64.wrap (((m + 1 : Nat) : Int) - 1) = (m : Int) := by rw [w64 (by omega) (by omega)]; omega
  have hW : waits t (m + 1) = (decide (c.pa % (m + 1 + 1) < m + 1) && decide (kdC c = 3) && decide (kdC d = 2) && !d.fa) := by simp [waits, hc, hdq]
  have hP : parN t (m + 1) = c.pa % (m + 1 + 1) := by simp [parN, hc]
  have k1 := ck c
  have k2 := ck d
  clear ck
  simp only [calT, calA, List.map, treA] at k1 k2 hKL ⊢
  generalize hpp : c.pa % (m + 1 + 1) = p at *
  have hi1 : decide ((p : Int) < ((m + 1 : Nat) : Int)) = decide (p < m + 1) := by congr 1; simp; omega
  have hi2 : (((kdC c : Nat) : Int) == 3) = decide (kdC c = 3) := by rw [Bool.eq_iff_iff]; simp; omega
  have hi3 : (((kdC d : Nat) : Int) == 2) = decide (kdC d = 2) := by rw [Bool.eq_iff_iff]; simp; omega
  have hno : waits t (m + 1) = false → enG t m L = enL t := fun h => by rw [← hinv]; simp [enG, stepE, h]
  cases h1 : decide (p < m + 1)
  · rw [h1] at hi1 hW
    repeat' (first | refine W.seq fun K hK => ?_ | refine W.block ?_ | ((first | refine wR ?_ | refine wD ?_ | refine W.skip ?_ | refine W.exit ?_ | refine W.ret (Post.ret ?_) | refine aP ?_ | refine aF ?_); simp only [go_sem, reduceCtorEq, List.getElem?_map, hc, hdq, calA, e3, List.length_map, r1, r2, r3, r4, hi1, hi2, hi3]) | refine wT ?_ | refine wF ?_ | refine wC (fun h => ?_) (fun h => ?_) | refine iK ?_ | refine aI2 ?_ | (refine hK _ ?_; clear hK K) | clear hK K)
    refine hKL.to (m, L) ⟨by omega, hl, hb, hno (by rw [hW]; rfl)⟩ (by simp) (Fits.fit [(0, 0), (1, 1), (2, 2)] [1, 2, 3, 8] 3 rfl rfl ?_)
    simp only [go_sem]
    exact Fits.rfl
  rw [h1] at hi1 hW
  cases h2 : decide (kdC c = 3)
  · rw [h2] at hi2 hW
    repeat' (first | refine W.seq fun K hK => ?_ | refine W.block ?_ | ((first | refine wR ?_ | refine wD ?_ | refine W.skip ?_ | refine W.exit ?_ | refine W.ret (Post.ret ?_) | refine aP ?_ | refine aF ?_); simp only [go_sem, reduceCtorEq, List.getElem?_map, hc, hdq, calA, e3, List.length_map, r1, r2, r3, r4, hi1, hi2, hi3]) | refine wT ?_ | refine wF ?_ | refine wC (fun h => ?_) (fun h => ?_) | refine iK ?_ | refine aI2 ?_ | (refine hK _ ?_; clear hK K) | clear hK K)
    refine hKL.to (m, L) ⟨by omega, hl, hb, hno (by rw [hW]; rfl)⟩ (by simp) (Fits.fit [(0, 0), (1, 1), (2, 2)] [1, 2, 3, 8] 3 rfl rfl ?_)
    simp only [go_sem]
    exact Fits.rfl
  rw [h2] at hi2 hW
  cases h3 : decide (kdC d = 2)
  · rw [h3] at hi3 hW
    repeat' (first | refine W.seq fun K hK => ?_ | refine W.block ?_ | ((first | refine wR ?_ | refine wD ?_ | refine W.skip ?_ | refine W.exit ?_ | refine W.ret (Post.ret ?_) | refine aP ?_ | refine aF ?_); simp only [go_sem, reduceCtorEq, List.getElem?_map, hc, hdq, calA, e3, List.length_map, r1, r2, r3, r4, hi1, hi2, hi3]) | refine wT ?_ | refine wF ?_ | refine wC (fun h => ?_) (fun h => ?_) | refine iK ?_ | refine aI2 ?_ | (refine hK _ ?_; clear hK K) | clear hK K)
    refine hKL.to (m, L) ⟨by omega, hl, hb, hno (by rw [hW]; rfl)⟩ (by simp) (Fits.fit [(0, 0), (1, 1), (2, 2)] [1, 2, 3, 8] 3 rfl rfl ?_)
    simp only [go_sem]
    exact Fits.rfl
  rw [h3] at hi3 hW
  have h4 : d.fa = true ∨ d.fa = false := by cases d.fa <;> simp
  rcases h4 with h4 | h4 <;> (rw [h4] at hW k2)
  · repeat' (first | refine W.seq fun K hK => ?_ | refine W.block ?_ | ((first | refine wR ?_ | refine wD ?_ | refine W.skip ?_ | refine W.exit ?_ | refine W.ret (Post.ret ?_) | refine aP ?_ | refine aF ?_); simp only [go_sem, reduceCtorEq, List.getElem?_map, hc, hdq, calA, e3, List.length_map, r1, r2, r3, r4, hi1, hi2, hi3, h4]) | refine wT ?_ | refine wF ?_ | refine wC (fun h => ?_) (fun h => ?_) | refine iK ?_ | refine aI2 ?_ | (refine hK _ ?_; clear hK K) | clear hK K)
    refine hKL.to (m, L) ⟨by omega, hl, hb, hno (by rw [hW]; rfl)⟩ (by simp) (Fits.fit [(0, 0), (1, 1), (2, 2)] [1, 2, 3, 8] 3 rfl rfl ?_)
    simp only [go_sem]
    exact Fits.rfl
  have hp1 : p < m + 1 := of_decide_eq_true h1
  have hLp : L[p]? = some L[p] := List.getElem?_eq_getElem (by omega)
  have hLi : L[m + 1]? = some (L[m + 1]'(by omega)) := List.getElem?_eq_getElem (by omega)
  have bp := hb _ (List.mem_of_getElem? hLp)
  have bi := hb _ (List.mem_of_getElem? hLi)
  obtain ⟨x, hx⟩ : ∃ x, x = L[p] := ⟨_, rfl⟩
  obtain ⟨y, hy⟩ : ∃ y, y = L[m + 1]'(by omega) := ⟨_, rfl⟩
  rw [← hx] at hLp bp
  rw [← hy] at hLi bi
  clear hx hy
  have d1 : decide (p < L.length) = true := by simp; omega
  have d2 : decide (m + 1 < L.length) = true := by simp; omega
  have hif : (if (y : Int) > (x : Int) then (y : Int) else (x : Int)) = ((max x y : Nat) : Int) := by split <;> omega
  have hst : stepE t L (m + 1) = L.set p (max x y) := by simp [stepE, hW, hP, hLp, hLi]
  have hset : imR ((L.set p (max x y)).map nA) = (imR (L.map nA)).set p [.im (.flat (.int .i64 ((max x y : Nat) : Int)))] := by simp [imR, imL, nA, List.map_set]
  repeat' (first | refine W.seq fun K hK => ?_ | refine W.block ?_ | ((first | refine wR ?_ | refine wD ?_ | refine W.skip ?_ | refine W.exit ?_ | refine W.ret (Post.ret ?_) | refine aP ?_ | refine aF ?_); simp only [go_sem, reduceCtorEq, List.getElem?_map, hc, hdq, calA, e3, List.length_map, r1, r2, r3, r4, hi1, hi2, hi3, h4, hLp, hLi, nA, imL, imR_len, d1, d2, hif]) | refine wT ?_ | refine wF ?_ | refine wC (fun h => ?_) (fun h => ?_) | refine iK ?_ | refine aI2 ?_ | (refine hK _ ?_; clear hK K) | clear hK K)
  refine hKL.to (m, L.set p (max x y)) ⟨by omega, by simp [hl], fun z hz => ?_, by rw [← hinv]; simp only [enG, hst]⟩ (by simp) (Fits.fit [(0, 0), (1, 1), (2, 2)] [1, 2, 3, 8] 3 rfl rfl ?_)
  · rcases List.mem_or_eq_of_mem_set hz with h | h
    · exact hb z h
    · omega
  rw [← hset]
  simp only [go_sem]
  exact Fits.rfl
end Go.Proofs.YtigenjeealkdlaaGreat
namespace Go.Proofs.YtigenjeealkdlaaGreat
open Go.RowKit Go.Exe
def svN (n : Nat) : ByteArray := if n = 0 then ⟨#[97, 112, 105]⟩ else if n = 1 then ⟨#[100, 98]⟩ else if n = 2 then ⟨#[119, 101, 98]⟩ else ⟨#[99, 97, 99, 104, 101]⟩
def veN (n : Nat) : ByteArray := if n = 0 then ⟨#[118, 49]⟩ else if n = 1 then ⟨#[118, 50]⟩ else ⟨#[]⟩
def opN (n : Nat) : ByteArray := if n = 0 then ⟨#[103, 101, 116]⟩ else if n = 1 then ⟨#[112, 117, 116]⟩ else ⟨#[108, 105, 115, 116]⟩
def paN (c : Cal) (i : Nat) : Nat := if c.pa % (i + 1) < i then c.pa % (i + 1) + 1 else if 0 < i then 100 else 0
def hasL (c : Cal) (i : Nat) (st : List Nat) : Bool := decide (c.li % 16 < i) && decide (st.getD (c.li % 16) 0 ≤ st.getD i 0)
def madeS (s : Sto) (k i : Nat) (c : Cal) (st en : List Nat) : Spn := ⟨((tidN s k : Nat) : Int), ((i + 1 : Nat) : Int), ((paN c i : Nat) : Int), 0, ((1 + c.cl % 4 : Nat) : Int), ((kdC c : Nat) : Int), svN (c.se % 4), veN (c.ve % 3), opN (c.op % 3), ((st.getD i 0 : Nat) : Int), ((en.getD i 0 : Nat) : Int), c.fa, attsC c, if hasL c i st then [(((tidN s k : Nat) : Int), ((c.li % 16 + 1 : Nat) : Int))] else []⟩
theorem tidN_lt {s : Sto} (hs : s.ok) (k : Nat) (hk : k < s.ts.length) : tidN s k < 1000000000 := by
  have := hs.2.2.2.2.2.2
  unfold tidN
  split
  · have := Nat.mod_lt ‹Tre›.slot (show 0 < 64 by omega); omega
  · omega
attribute [local irreducible] W AX Run RunD AStep AOp AOpX AStB AStH AStG Fits PCall GCall PostG Post Stop
theorem made_c (s : Sto) (hs : s.ok) (k i : Nat) (t : Tre) (c : Cal) (st en : List Nat) (hk : s.ts[k]? = some t) (hc : t.cs[i]? = some c) (hsl : st.length = t.cs.length) (hel : en.length = t.cs.length) :
    PCall Tryz.prog 151 [stoT s, ft (.int .i64 (k : Nat)), ft (.int .i64 (i : Nat)), natsT st, natsT en] (spT (madeS s k i c st en)) := by
  have hkl : k < s.ts.length := (List.getElem?_eq_some_iff.1 hk).1
  have hil : i < t.cs.length := (List.getElem?_eq_some_iff.1 hc).1
  have hto := hs.1 t (List.mem_of_getElem? hk)
  have hco := hto.2.2.1 c (List.mem_of_getElem? hc)
  have h8 := hto.2.2.2
  have c1 := tid_c s hs k hkl
  have c2 := kind_c c
  have c3 := sattrs_c c hco
  obtain ⟨b1, b2, b3, b4, b5, b6, b7, b8, b9, b10⟩ := hco
  obtain ⟨v, hv⟩ : ∃ v, st[i]? = some v := ⟨st[i], List.getElem?_eq_getElem (by omega)⟩
  obtain ⟨u, hu⟩ : ∃ u, en[i]? = some u := ⟨en[i], List.getElem?_eq_getElem (by omega)⟩
  have hvD : st.getD i 0 = v := by simp [hv]
  have huD : en.getD i 0 = u := by simp [hu]
  have q1 := w64s i (by omega)
  have q2 := w64n (c.cl % 4) (by omega)
  have q3 : IntKind.i64.wrap (1 + ((c.cl % 4 : Nat) : Int)) = ((1 + c.cl % 4 : Nat) : Int) := wadd 1 _ (by omega)
  have q4 := w64n c.pa (by omega)
  have q5 : Int.tmod (c.pa : Int) ((i + 1 : Nat) : Int) = ((c.pa % (i + 1) : Nat) : Int) := tm _ _
  have q6 := w64s (c.pa % (i + 1)) (by have := Nat.mod_lt c.pa (show 0 < i + 1 by omega); omega)
  have q7 := w64n (c.li % 16) (by omega)
  have q8 := w64s (c.li % 16) (by omega)
  have s1 : ([[.im (.flat (.string ⟨#[97, 112, 105]⟩))], [.im (.flat (.string ⟨#[100, 98]⟩))], [.im (.flat (.string ⟨#[119, 101, 98]⟩))], [.im (.flat (.string ⟨#[99, 97, 99, 104, 101]⟩))]] : List (List Cell))[c.se % 4]? = some [.im (.flat (.string (svN (c.se % 4))))] := by
    rcases (by omega : c.se % 4 = 0 ∨ c.se % 4 = 1 ∨ c.se % 4 = 2 ∨ c.se % 4 = 3) with h | h | h | h <;> simp [h, svN]
  have s2 : ([[.im (.flat (.string ⟨#[118, 49]⟩))], [.im (.flat (.string ⟨#[118, 50]⟩))], [.im (.flat (.string ⟨#[]⟩))]] : List (List Cell))[c.ve % 3]? = some [.im (.flat (.string (veN (c.ve % 3))))] := by
    rcases (by omega : c.ve % 3 = 0 ∨ c.ve % 3 = 1 ∨ c.ve % 3 = 2) with h | h | h <;> simp [h, veN]
  have s3 : ([[.im (.flat (.string ⟨#[103, 101, 116]⟩))], [.im (.flat (.string ⟨#[112, 117, 116]⟩))], [.im (.flat (.string ⟨#[108, 105, 115, 116]⟩))]] : List (List Cell))[c.op % 3]? = some [.im (.flat (.string (opN (c.op % 3))))] := by
    rcases (by omega : c.op % 3 = 0 ∨ c.op % 3 = 1 ∨ c.op % 3 = 2) with h | h | h <;> simp [h, opN]
  have d1 : decide (c.se % 4 < 4) = true := by simp; omega
  have d2 : decide (c.ve % 3 < 3) = true := by simp; omega
  have d3 : decide (c.op % 3 < 3) = true := by simp; omega
  have e1 : decide (((c.pa % (i + 1) : Nat) : Int) < (i : Int)) = decide (c.pa % (i + 1) < i) := by congr 1; exact propext Int.ofNat_lt
  have e2 : decide ((i : Int) > 0) = decide (0 < i) := by congr 1; simp
  have e3 : decide (((c.li % 16 : Nat) : Int) < (i : Int)) = decide (c.li % 16 < i) := by congr 1; exact propext Int.ofNat_lt
  have hpa1 : decide (c.pa % (i + 1) < i) = true → ((paN c i : Nat) : Int) = ((c.pa % (i + 1) + 1 : Nat) : Int) := fun h => by simp only [decide_eq_true_eq] at h; simp [paN, h]
  have hpa2 : decide (c.pa % (i + 1) < i) = false → decide (0 < i) = true → ((paN c i : Nat) : Int) = 100 := fun h h' => by simp only [decide_eq_true_eq, decide_eq_false_iff_not] at h h'; simp [paN, h, h']
  have hpa3 : decide (c.pa % (i + 1) < i) = false → decide (0 < i) = false → ((paN c i : Nat) : Int) = 0 := fun h h' => by simp only [decide_eq_false_iff_not] at h h'; simp [paN, h, h']
  cases hL : hasL c i st
  · refine PCall.conv (args' := [stoT s, ft (.int .i64 (k : Nat)), ft (.int .i64 (i : Nat)), natsT st, natsT en]) (r' := .g [fl (.int .i64 (tidN s k : Nat)), fl (.int .i64 (i + 1 : Nat)), fl (.int .i64 (paN c i : Nat)), fl (.int .i64 0), fl (.int .i64 (1 + c.cl % 4 : Nat)), fl (.int .i64 (kdC c : Nat)), fl (.string (svN (c.se % 4))), fl (.string (veN (c.ve % 3))), fl (.string (opN (c.op % 3))), fl (.int .i64 (v : Nat)), fl (.int .i64 (u : Nat)), fl (.bool c.fa), .im (.sl 134 ((attsC c).map attA)), fl (.slice none 0 0)]) ?_ (Al.refl (fun _ => TLe.rfl) _) (TLe.g ?_)
    rotate_left
    · simp only [spA, madeS, hL, hvD, huD, List.map, Bool.false_eq_true, if_false, List.map_nil]
      repeat (first | exact Al.nil | (refine Al.cons (by first | exact CLe.rfl | exact CLe.nil) ?_))
    simp only [stoT, stoA, calT, calA, List.map] at c1 c2 c3 ⊢
    cases hj : decide (c.li % 16 < i)
    · rw [hj] at e3
      refine PCall.intro (nt := 112) (rs := [.cell 10 88]) Tryz.func151 rfl ⟨by kernel_rfl, by kernel_rfl, by kernel_rfl⟩ (by simp) ?_
      rintro ⟨P, w0, ok0, may, np, pblk⟩ rfl rfl
      repeat' (first | refine W.seq fun K hK => ?_ | refine W.block ?_ | ((first | refine wR ?_ | refine wD ?_ | refine W.skip ?_ | refine W.exit ?_ | refine W.ret (Post.ret ?_) | refine aP ?_ | refine aF ?_); simp only [go_sem, reduceCtorEq, List.getElem?_map, hk, hc, treA, calA, q1, q2, q3, q4, q5, q6, q7, q8, tm3, tm4, tm16, s1, s2, s3, d1, d2, d3, hv, hu, nA, e1, e2, e3, imL]) | refine wT ?_ | refine wF ?_ | refine wC (fun h => ?_) (fun h => ?_) | refine iK ?_ | refine aI2 ?_ | (refine hK _ ?_; clear hK K) | clear hK K)
      all_goals first | rw [hpa1 (by assumption)] | rw [hpa2 (by assumption) (by assumption)] | rw [hpa3 (by assumption) (by assumption)]
    · rw [hj] at e3
      have hj' := of_decide_eq_true hj
      obtain ⟨x, hx⟩ : ∃ x, st[c.li % 16]? = some x := ⟨st[c.li % 16], List.getElem?_eq_getElem (by omega)⟩
      have e4 : decide ((x : Int) ≤ (v : Int)) = false := by
        have h : hasL c i st = decide (x ≤ v) := by simp [hasL, hx, hv, hj']
        rw [hL] at h
        have := of_decide_eq_false h.symm
        exact decide_eq_false fun h => this (Int.ofNat_le.1 h)
      refine PCall.intro (nt := 112) (rs := [.cell 10 88]) Tryz.func151 rfl ⟨by kernel_rfl, by kernel_rfl, by kernel_rfl⟩ (by simp) ?_
      rintro ⟨P, w0, ok0, may, np, pblk⟩ rfl rfl
      repeat' (first | refine W.seq fun K hK => ?_ | refine W.block ?_ | ((first | refine wR ?_ | refine wD ?_ | refine W.skip ?_ | refine W.exit ?_ | refine W.ret (Post.ret ?_) | refine aP ?_ | refine aF ?_); simp only [go_sem, reduceCtorEq, List.getElem?_map, hk, hc, treA, calA, q1, q2, q3, q4, q5, q6, q7, q8, tm3, tm4, tm16, s1, s2, s3, d1, d2, d3, hv, hu, hx, nA, e1, e2, e3, e4, imL]) | refine wT ?_ | refine wF ?_ | refine wC (fun h => ?_) (fun h => ?_) | refine iK ?_ | refine aI2 ?_ | (refine hK _ ?_; clear hK K) | clear hK K)
      all_goals first | rw [hpa1 (by assumption)] | rw [hpa2 (by assumption) (by assumption)] | rw [hpa3 (by assumption) (by assumption)]
  · have hj : decide (c.li % 16 < i) = true := by unfold hasL at hL; simp only [Bool.and_eq_true] at hL; exact hL.1
    rw [hj] at e3
    have hj' := of_decide_eq_true hj
    obtain ⟨x, hx⟩ : ∃ x, st[c.li % 16]? = some x := ⟨st[c.li % 16], List.getElem?_eq_getElem (by omega)⟩
    have e4 : decide ((x : Int) ≤ (v : Int)) = true := by
      have h : hasL c i st = decide (x ≤ v) := by simp [hasL, hx, hv, hj']
      rw [hL] at h
      exact decide_eq_true (Int.ofNat_le.2 (of_decide_eq_true h.symm))
    simp only [stoT, stoA, calT, calA, List.map] at c1 c2 c3 ⊢
    simp only [spA, madeS, hL, hvD, huD, List.map, if_true, List.map_cons, List.map_nil, refA]
    refine PCall.intro (nt := 112) (rs := [.cell 10 88]) Tryz.func151 rfl ⟨by kernel_rfl, by kernel_rfl, by kernel_rfl⟩ (by simp) ?_
    rintro ⟨P, w0, ok0, may, np, pblk⟩ rfl rfl
    repeat' (first | refine W.seq fun K hK => ?_ | refine W.block ?_ | ((first | refine wR ?_ | refine wD ?_ | refine W.skip ?_ | refine W.exit ?_ | refine W.ret (Post.ret ?_) | refine aP ?_ | refine aF ?_); simp only [go_sem, reduceCtorEq, List.getElem?_map, hk, hc, treA, calA, q1, q2, q3, q4, q5, q6, q7, q8, tm3, tm4, tm16, s1, s2, s3, d1, d2, d3, hv, hu, hx, nA, e1, e2, e3, e4, imL]) | refine wT ?_ | refine wF ?_ | refine wC (fun h => ?_) (fun h => ?_) | refine iK ?_ | refine aI2 ?_ | (refine hK _ ?_; clear hK K) | clear hK K)
    all_goals first | (rw [hpa1 (by assumption)]; rfl) | (rw [hpa2 (by assumption) (by assumption)]; rfl) | (rw [hpa3 (by assumption) (by assumption)]; rfl)
end Go.Proofs.YtigenjeealkdlaaGreat
namespace Go.Proofs.YtigenjeealkdlaaGreat
open Go.RowKit Go.Exe
def wrongS (s : Sto) (k i : Nat) : Bool := decide (0 < s.wr) && decide (s.wr % 8 = i) && decide (s.wr / 8 % 3 = k)
def byS (s : Sto) (k i : Nat) (c : Cal) : Int := if wrongS s k i then offC s (1 + c.cl % 4) + 500 else offC s (1 + c.cl % 4)
def spnS (s : Sto) (k : Nat) (t : Tre) (i : Nat) (c : Cal) : Spn := { madeS s k i c (stL t) (enL t) with st := (((stL t).getD i 0 : Nat) : Int) + byS s k i c, en := (((enL t).getD i 0 : Nat) : Int) + byS s k i c }
def trcS (s : Sto) (k : Nat) (t : Tre) : List Spn := t.cs.zipIdx.map fun y => spnS s k t y.2 y.1
theorem trcS_at {s : Sto} {k : Nat} {t : Tre} {i : Nat} {c : Cal} (h : t.cs[i]? = some c) : (trcS s k t)[i]? = some (spnS s k t i c) := by
  have : t.cs.zipIdx[i]? = some (c, i) := by simp [List.getElem?_zipIdx, h]
  simp [trcS, this]
theorem trcS_len (s : Sto) (k : Nat) (t : Tre) : (trcS s k t).length = t.cs.length := by simp [trcS]
theorem offC_b (s : Sto) (n : Nat) : -21 < offC s n ∧ offC s n < 21 := by
  unfold offC
  exact ⟨Int.lt_tmod_of_pos _ (by omega), Int.tmod_lt_of_pos _ (by omega)⟩
theorem stL_len (t : Tre) : (stL t).length = t.cs.length := stF_len t _ (Nat.le_refl _)
theorem enG_len (t : Tre) : ∀ (n : Nat) (L : List Nat), (enG t n L).length = L.length
  | 0, L => rfl
  | n + 1, L => by
    rw [enG, enG_len t n]
    unfold stepE
    split <;> simp
theorem enL_len (t : Tre) : (enL t).length = t.cs.length := by rw [enL, enG_len, enF_len t _ (Nat.le_refl _)]
theorem getD_le {L : List Nat} {b : Nat} (h : ∀ x ∈ L, x ≤ b) (i : Nat) : L.getD i 0 ≤ b := by
  rw [List.getD_eq_getElem?_getD]
  cases e : L[i]? with
  | none => simp
  | some y => exact h y (List.mem_of_getElem? e)
theorem enG_le (t : Tre) {b : Nat} : ∀ (n : Nat) (L : List Nat), (∀ x ∈ L, x ≤ b) → ∀ x ∈ enG t n L, x ≤ b
  | 0, L, h => h
  | n + 1, L, h => by
    rw [enG]
    refine enG_le t n _ fun x hx => ?_
    unfold stepE at hx
    split at hx
    · rcases List.mem_or_eq_of_mem_set hx with hx | hx
      · exact h x hx
      · have h1 := getD_le h (parN t (n + 1))
        have h2 := getD_le h (n + 1)
        omega
    · exact h x hx
theorem stL_le {t : Tre} (h8 : t.cs.length ≤ 8) : ∀ x ∈ stL t, x ≤ 2000 := fun x hx => by have := stF_le t _ (Nat.le_refl _) x hx; omega
theorem enL_le {t : Tre} (h8 : t.cs.length ≤ 8) : ∀ x ∈ enL t, x ≤ 2000 := enG_le t _ _ fun x hx => by have := enF_le t _ (Nat.le_refl _) x hx; omega
attribute [local irreducible] W AX Run RunD AStep AOp AOpX AStB AStH AStG Fits PCall GCall PostG Post Stop
theorem strace_c (s : Sto) (hs : s.ok) (k : Nat) (t : Tre) (hk : s.ts[k]? = some t) (h0 : 0 < t.cs.length) :
    PCall Tryz.prog 129 [stoT s, ft (.int .i64 (k : Nat)), ft (.bool false)] (spsT (trcS s k t)) := by
  have hto := hs.1 t (List.mem_of_getElem? hk)
  have h8 := hto.2.2.2
  have c80 := times_c t hto h0
  have cm : ∀ (i : Nat) (c : Cal), t.cs[i]? = some c → PCall Tryz.prog 151 [stoT s, ft (.int .i64 (k : Nat)), ft (.int .i64 (i : Nat)), natsT (stL t), natsT (enL t)] (spT (madeS s k i c (stL t) (enL t))) := fun i c hc => made_c s hs k i t c _ _ hk hc (stL_len t) (enL_len t)
  have co : ∀ c : Cal, PCall Tryz.prog 94 [stoT s, ft (.int .i64 (1 + c.cl % 4 : Nat))] (ft (.int .i64 (offC s (1 + c.cl % 4)))) := fun c => off_c s hs _ (by omega) (by omega)
  have bs := stL_le h8
  have be := enL_le h8
  have hwr := hs.2.2.2.2.2.1
  simp only [stoT, stoA, treT, treA, List.map] at c80 cm co ⊢
  refine PCall.intro (nt := 82) (rs := [.tmp 6]) Tryz.func129 rfl ⟨by kernel_rfl, by kernel_rfl, by kernel_rfl⟩ (by simp) ?_
  rintro ⟨P, w0, ok0, may, np, pblk⟩ rfl rfl
  repeat' (first | refine W.seq fun K hK => ?_ | refine W.block ?_ | ((first | refine wR ?_ | refine wD ?_ | refine W.skip ?_ | refine W.exit ?_ | refine W.ret (Post.ret ?_) | refine aP ?_ | refine aF ?_); simp only [go_sem, reduceCtorEq, List.getElem?_map, hk, treA]) | refine wT ?_ | refine wF ?_ | refine wC (fun h => ?_) (fun h => ?_) | refine iK ?_ | refine aI2 ?_ | (refine hK _ ?_; clear hK K) | clear hK K)
  refine W.loopF (T := fun i : Nat => { t := [(1, ft (.int .i64 (k : Nat))), (2, ft (.bool false)), (3, .c (.ptr 0 0)), (7, .c (.ref 1)), (8, natsT (stL t)), (9, natsT (enL t)), (10, ft (.int .i64 (i : Nat)))], h := [(0, .box 57 ((stoA s).map .im)), (1, .row 88 (imR (((trcS s k t).take i).map spA)))], nx := 2, ex := [], nt := 82 })
    (Inv := fun i => i ≤ t.cs.length) (μ := fun i => t.cs.length - i) (x0 := 0) ?_ (Nat.zero_le _) ?_
  · refine Fits.adopt 7 99 88 rfl rfl rfl tE88 rfl ?_
    refine Fits.fit [(0, 0), (99, 1)] [1, 2, 3, 7, 8, 9, 10] 2 rfl rfl ?_
    simp only [go_sem, List.take_zero, List.map_nil, imR_nil, stoA, List.map]
    exact Fits.rfl
  rintro i hi KL hKL
  by_cases hlt : i < t.cs.length
  · obtain ⟨c, hc, hm, hd⟩ := drop_at hlt
    have e1 : decide ((i : Int) < t.cs.length) = true := by simp; omega
    have hw := w64s i (by omega)
    have cmi := cm i c hc
    have coi := co c
    clear cm co c80
    have ob := offC_b s (1 + c.cl % 4)
    have vb := getD_le bs i
    have ub := getD_le be i
    have hsn : (trcS s k t).take (i + 1) = (trcS s k t).take i ++ [spnS s k t i c] := by rw [List.take_add_one, trcS_at hc]; rfl
    have himR : imR (((trcS s k t).take (i + 1)).map spA) = imR (((trcS s k t).take i).map spA) ++ [(spA (spnS s k t i c)).map .im] := by rw [hsn]; simp [imR, imL]
    have r1 := w64n s.wr (by omega)
    have r2 := w64n (s.wr / 8) (by omega)
    have g1 : decide ((s.wr : Int) > 0) = decide (0 < s.wr) := by congr 1; simp
    have g2 : (((s.wr % 8 : Nat) : Int) == (i : Int)) = decide (s.wr % 8 = i) := by rw [Bool.eq_iff_iff, beq_iff_eq, decide_eq_true_eq]; exact Int.ofNat_inj
    have g3 : (((s.wr / 8 % 3 : Nat) : Int) == (k : Int)) = decide (s.wr / 8 % 3 = k) := by rw [Bool.eq_iff_iff, beq_iff_eq, decide_eq_true_eq]; exact Int.ofNat_inj
    have hW : wrongS s k i = (decide (0 < s.wr) && decide (s.wr % 8 = i) && decide (s.wr / 8 % 3 = k)) := rfl
    simp only [stoA, List.map, spT, spA, madeS] at hKL cmi ⊢
    repeat' (first | refine W.stop (id := 9) ?_ | refine W.seq fun K hK => ?_ | refine W.block ?_ | ((first | refine wR ?_ | refine wD ?_ | refine W.skip ?_ | refine W.exit ?_ | refine W.ret (Post.ret ?_) | refine aP ?_ | refine aF ?_); simp only [go_sem, reduceCtorEq, List.getElem?_map, hk, treA, e1, List.length_map, hw]) | refine wT ?_ | refine wF ?_ | refine wC (fun h => ?_) (fun h => ?_) | refine iK ?_ | refine aI2 ?_ | (refine hK _ ?_; clear hK K) | clear hK K)
    refine Stop.out ?_
    cases a1 : decide (0 < s.wr)
    · rw [a1] at g1 hW
      have z1 : IntKind.i64.wrap ((((stL t).getD i 0 : Nat) : Int) + offC s (1 + c.cl % 4)) = (((stL t).getD i 0 : Nat) : Int) + offC s (1 + c.cl % 4) := w64 (by omega) (by omega)
      have z2 : IntKind.i64.wrap ((((enL t).getD i 0 : Nat) : Int) + offC s (1 + c.cl % 4)) = (((enL t).getD i 0 : Nat) : Int) + offC s (1 + c.cl % 4) := w64 (by omega) (by omega)
      have hb : byS s k i c = offC s (1 + c.cl % 4) := by simp [byS, hW]
      repeat' (first | refine W.seq fun K hK => ?_ | refine W.block ?_ | ((first | refine wR ?_ | refine wD ?_ | refine W.skip ?_ | refine W.exit ?_ | refine W.ret (Post.ret ?_) | refine aP ?_ | refine aF ?_); simp only [go_sem, reduceCtorEq, r1, r2, tm8, td8, tm3, g1, g2, g3, z1, z2, hw, imR_len, List.length_take, trcS_len]) | refine wT ?_ | refine wF ?_ | refine wC (fun h => ?_) (fun h => ?_) | refine iK ?_ | refine aI2 ?_ | (refine hK _ ?_; clear hK K) | clear hK K)
      refine hKL.to (i + 1) (by omega) (by omega) (Fits.fit [(0, 0), (61, 1)] [1, 2, 3, 7, 8, 9, 10] 2 rfl rfl ?_)
      simp only [go_sem, himR, spA, spnS, madeS, hb, List.map]
      exact Fits.rfl
    rw [a1] at g1 hW
    cases a2 : decide (s.wr % 8 = i)
    · rw [a2] at g2 hW
      have z1 : IntKind.i64.wrap ((((stL t).getD i 0 : Nat) : Int) + offC s (1 + c.cl % 4)) = (((stL t).getD i 0 : Nat) : Int) + offC s (1 + c.cl % 4) := w64 (by omega) (by omega)
      have z2 : IntKind.i64.wrap ((((enL t).getD i 0 : Nat) : Int) + offC s (1 + c.cl % 4)) = (((enL t).getD i 0 : Nat) : Int) + offC s (1 + c.cl % 4) := w64 (by omega) (by omega)
      have hb : byS s k i c = offC s (1 + c.cl % 4) := by simp [byS, hW]
      repeat' (first | refine W.seq fun K hK => ?_ | refine W.block ?_ | ((first | refine wR ?_ | refine wD ?_ | refine W.skip ?_ | refine W.exit ?_ | refine W.ret (Post.ret ?_) | refine aP ?_ | refine aF ?_); simp only [go_sem, reduceCtorEq, r1, r2, tm8, td8, tm3, g1, g2, g3, z1, z2, hw, imR_len, List.length_take, trcS_len]) | refine wT ?_ | refine wF ?_ | refine wC (fun h => ?_) (fun h => ?_) | refine iK ?_ | refine aI2 ?_ | (refine hK _ ?_; clear hK K) | clear hK K)
      refine hKL.to (i + 1) (by omega) (by omega) (Fits.fit [(0, 0), (61, 1)] [1, 2, 3, 7, 8, 9, 10] 2 rfl rfl ?_)
      simp only [go_sem, himR, spA, spnS, madeS, hb, List.map]
      exact Fits.rfl
    rw [a2] at g2 hW
    cases a3 : decide (s.wr / 8 % 3 = k)
    · rw [a3] at g3 hW
      have z1 : IntKind.i64.wrap ((((stL t).getD i 0 : Nat) : Int) + offC s (1 + c.cl % 4)) = (((stL t).getD i 0 : Nat) : Int) + offC s (1 + c.cl % 4) := w64 (by omega) (by omega)
      have z2 : IntKind.i64.wrap ((((enL t).getD i 0 : Nat) : Int) + offC s (1 + c.cl % 4)) = (((enL t).getD i 0 : Nat) : Int) + offC s (1 + c.cl % 4) := w64 (by omega) (by omega)
      have hb : byS s k i c = offC s (1 + c.cl % 4) := by simp [byS, hW]
      repeat' (first | refine W.seq fun K hK => ?_ | refine W.block ?_ | ((first | refine wR ?_ | refine wD ?_ | refine W.skip ?_ | refine W.exit ?_ | refine W.ret (Post.ret ?_) | refine aP ?_ | refine aF ?_); simp only [go_sem, reduceCtorEq, r1, r2, tm8, td8, tm3, g1, g2, g3, z1, z2, hw, imR_len, List.length_take, trcS_len]) | refine wT ?_ | refine wF ?_ | refine wC (fun h => ?_) (fun h => ?_) | refine iK ?_ | refine aI2 ?_ | (refine hK _ ?_; clear hK K) | clear hK K)
      refine hKL.to (i + 1) (by omega) (by omega) (Fits.fit [(0, 0), (61, 1)] [1, 2, 3, 7, 8, 9, 10] 2 rfl rfl ?_)
      simp only [go_sem, himR, spA, spnS, madeS, hb, List.map]
      exact Fits.rfl
    · rw [a3] at g3 hW
      have z0 : IntKind.i64.wrap (offC s (1 + c.cl % 4) + 500) = offC s (1 + c.cl % 4) + 500 := w64 (by omega) (by omega)
      have z1 : IntKind.i64.wrap ((((stL t).getD i 0 : Nat) : Int) + (offC s (1 + c.cl % 4) + 500)) = (((stL t).getD i 0 : Nat) : Int) + (offC s (1 + c.cl % 4) + 500) := w64 (by omega) (by omega)
      have z2 : IntKind.i64.wrap ((((enL t).getD i 0 : Nat) : Int) + (offC s (1 + c.cl % 4) + 500)) = (((enL t).getD i 0 : Nat) : Int) + (offC s (1 + c.cl % 4) + 500) := w64 (by omega) (by omega)
      have hb : byS s k i c = offC s (1 + c.cl % 4) + 500 := by simp [byS, hW]
      repeat' (first | refine W.seq fun K hK => ?_ | refine W.block ?_ | ((first | refine wR ?_ | refine wD ?_ | refine W.skip ?_ | refine W.exit ?_ | refine W.ret (Post.ret ?_) | refine aP ?_ | refine aF ?_); simp only [go_sem, reduceCtorEq, r1, r2, tm8, td8, tm3, g1, g2, g3, z0, z1, z2, hw, imR_len, List.length_take, trcS_len]) | refine wT ?_ | refine wF ?_ | refine wC (fun h => ?_) (fun h => ?_) | refine iK ?_ | refine aI2 ?_ | (refine hK _ ?_; clear hK K) | clear hK K)
      refine hKL.to (i + 1) (by omega) (by omega) (Fits.fit [(0, 0), (64, 1)] [1, 2, 3, 7, 8, 9, 10] 2 rfl rfl ?_)
      simp only [go_sem, himR, spA, spnS, madeS, hb, List.map]
      exact Fits.rfl
  obtain rfl : i = t.cs.length := by omega
  have e1 : decide ((t.cs.length : Int) < t.cs.length) = false := by simp
  clear hKL
  rw [show (trcS s k t).take t.cs.length = trcS s k t by rw [← trcS_len s k t, List.take_length]]
  simp only [stoA, List.map]
  repeat' (first | refine W.seq fun K hK => ?_ | refine W.block ?_ | ((first | refine wR ?_ | refine wD ?_ | refine W.skip ?_ | refine W.exit ?_ | refine W.ret (Post.ret ?_) | refine aP ?_ | refine aF ?_); simp only [go_sem, reduceCtorEq, List.getElem?_map, hk, treA, e1, List.length_map]) | refine wT ?_ | refine wF ?_ | refine wC (fun h => ?_) (fun h => ?_) | refine iK ?_ | refine aI2 ?_ | (refine hK _ ?_; clear hK K) | clear hK K)
end Go.Proofs.YtigenjeealkdlaaGreat
namespace Go.Proofs.YtigenjeealkdlaaGreat
open Go.RowKit Go.Exe
abbrev Trc := Nat × List Spn
def trcA (x : Trc) : List AV := [.flat (.int .i64 (x.1 : Nat)), .flat (.int .i64 1), .sl 88 (x.2.map spA)]
abbrev trcsT (l : List Trc) : TV := .c (.im (.sl 74 (l.map trcA)))
def posT (id : Nat) (l : List Trc) : Nat → Nat
  | 0 => 0
  | n + 1 => match l[n]? with
    | some x => if x.1 > id then posT id l n else n + 1
    | none => n + 1
def insT (x : Trc) (l : List Trc) : List Trc := l.take (posT x.1 l l.length) ++ [x] ++ l.drop (posT x.1 l l.length)
theorem posT_le (id : Nat) (l : List Trc) : ∀ n, posT id l n ≤ n
  | 0 => Nat.le_refl _
  | n + 1 => by
    have := posT_le id l n
    unfold posT
    split
    · split <;> omega
    · omega
theorem insT_len (x : Trc) (l : List Trc) : (insT x l).length = l.length + 1 := by
  have := posT_le x.1 l l.length
  simp [insT]; omega
def trsN (s : Sto) : Nat → List Trc
  | 0 => []
  | k + 1 => match s.ts[k]? with
    | some t => if t.cs.length = 0 then trsN s k else insT (tidN s k, trcS s k t) (trsN s k)
    | none => trsN s k
def trsS (s : Sto) : List Trc := trsN s s.ts.length
theorem trsN_len (s : Sto) : ∀ k, (trsN s k).length ≤ k
  | 0 => Nat.le_refl _
  | k + 1 => by
    have := trsN_len s k
    unfold trsN
    split
    · split
      · omega
      · rw [insT_len]; omega
    · omega
attribute [local irreducible] W AX Run RunD AStep AOp AOpX AStB AStH AStG Fits PCall GCall PostG Post Stop
theorem straces_c (s : Sto) (hs : s.ok) : PCall Tryz.prog 108 [stoT s] (trcsT (trsS s)) := by
  have h3 := hs.2.2.2.2.2.2
  have c47 : ∀ k, k < s.ts.length → PCall Tryz.prog 74 [stoT s, ft (.int .i64 (k : Nat))] (ft (.int .i64 (tidN s k : Nat))) := tid_c s hs
  have c48 : ∀ (k : Nat) (t : Tre), s.ts[k]? = some t → 0 < t.cs.length → PCall Tryz.prog 129 [stoT s, ft (.int .i64 (k : Nat)), ft (.bool false)] (spsT (trcS s k t)) := fun k t hk h0 => strace_c s hs k t hk h0
  simp only [stoT, stoA, List.map] at c47 c48 ⊢
  refine PCall.intro (nt := 59) (rs := [.tmp 2]) Tryz.func108 rfl ⟨by kernel_rfl, by kernel_rfl, by kernel_rfl⟩ (by simp) ?_
  rintro ⟨P, w0, ok0, may, np, pblk⟩ rfl rfl
  repeat' (first | refine W.seq fun K hK => ?_ | refine W.block ?_ | ((first | refine wR ?_ | refine wD ?_ | refine W.skip ?_ | refine W.exit ?_ | refine W.ret (Post.ret ?_) | refine aP ?_ | refine aF ?_); simp only [go_sem, reduceCtorEq]) | refine wT ?_ | refine wF ?_ | refine wC (fun h => ?_) (fun h => ?_) | refine iK ?_ | refine aI2 ?_ | (refine hK _ ?_; clear hK K) | clear hK K)
  refine W.loopF (T := fun i : Nat => { t := [(1, .c (.ptr 0 0)), (3, .c (.ref 1)), (4, ft (.int .i64 (i : Nat)))], h := [(0, .box 57 ((stoA s).map .im)), (1, .row 74 (imR ((trsN s i).map trcA)))], nx := 2, ex := [], nt := 59 })
    (Inv := fun i => i ≤ s.ts.length) (μ := fun i => s.ts.length - i) (x0 := 0) ?_ (Nat.zero_le _) ?_
  · refine Fits.adopt 3 99 74 rfl rfl rfl tE74 rfl ?_
    refine Fits.fit [(0, 0), (99, 1)] [1, 3, 4] 2 rfl rfl ?_
    simp only [go_sem, trsN, List.map_nil, imR_nil, stoA, List.map]
    exact Fits.rfl
  rintro i hi KL hKL
  simp only [stoA, List.map] at hKL ⊢
  by_cases hlt : i < s.ts.length
  rotate_left
  · obtain rfl : i = s.ts.length := by omega
    have e1 : decide ((s.ts.length : Int) < s.ts.length) = false := by simp
    clear hKL c47 c48
    repeat' (first | refine W.seq fun K hK => ?_ | refine W.block ?_ | ((first | refine wR ?_ | refine wD ?_ | refine W.skip ?_ | refine W.exit ?_ | refine W.ret (Post.ret ?_) | refine aP ?_ | refine aF ?_); simp only [go_sem, reduceCtorEq, List.length_map, e1]) | refine wT ?_ | refine wF ?_ | refine wC (fun h => ?_) (fun h => ?_) | refine iK ?_ | refine aI2 ?_ | (refine hK _ ?_; clear hK K) | clear hK K)
    rfl
  obtain ⟨t, hx, hm, hd⟩ := drop_at hlt
  have e1 : decide ((i : Int) < s.ts.length) = true := by simp; omega
  have hw := w64s i (by omega)
  have c1 := c47 i hlt
  have c2 := c48 i t hx
  clear c47 c48
  by_cases h0 : t.cs.length = 0
  · have e2 : (((t.cs.length : Nat) : Int) == 0) = true := by simp [h0]
    have hat : trsN s (i + 1) = trsN s i := by simp [trsN, hx, h0]
    clear c1 c2
    repeat' (first | refine W.seq fun K hK => ?_ | refine W.block ?_ | ((first | refine wR ?_ | refine wD ?_ | refine W.skip ?_ | refine W.exit ?_ | refine W.ret (Post.ret ?_) | refine aP ?_ | refine aF ?_); simp only [go_sem, reduceCtorEq, List.getElem?_map, hx, treA, List.length_map, e1, e2, hw]) | refine wT ?_ | refine wF ?_ | refine wC (fun h => ?_) (fun h => ?_) | refine iK ?_ | refine aI2 ?_ | (refine hK _ ?_; clear hK K) | clear hK K)
    refine hKL.to (i + 1) (by omega) (by omega) (Fits.fit [(0, 0), (1, 1)] [1, 3, 4] 2 rfl rfl ?_)
    simp only [go_sem, hat]
    exact Fits.rfl
  have e2 : (((t.cs.length : Nat) : Int) == 0) = false := by simp; intro h; apply h0; simp [h]
  have c3 := c2 (by omega)
  clear c2
  have hat : trsN s (i + 1) = insT (tidN s i, trcS s i t) (trsN s i) := by simp [trsN, hx, h0]
  have hl := trsN_len s i
  generalize hacc : trsN s i = acc at hat hl ⊢
  generalize htc : trcS s i t = ss at hat c3
  have htid := tidN_lt hs i hlt
  generalize hid : tidN s i = id at hat c1 htid
  repeat' (first | refine W.seq fun K hK => ?_ | refine W.block ?_ | ((first | refine wR ?_ | refine wD ?_ | refine W.skip ?_ | refine W.exit ?_ | refine W.ret (Post.ret ?_) | refine aP ?_ | refine aF ?_); simp only [go_sem, reduceCtorEq, List.getElem?_map, hx, treA, List.length_map, e1, e2, hw, imR_len]) | refine wT ?_ | refine wF ?_ | refine wC (fun h => ?_) (fun h => ?_) | refine iK ?_ | refine aI2 ?_ | (refine hK _ ?_; clear hK K) | clear hK K)
  have hK2 : ∀ k : Nat, k ≤ acc.length → posT id acc acc.length = k → ∀ s1 : St, Fits ⟨Tryz.prog, w0, ok0, may, 0, pblk⟩ s1 { t := [(1, .c (.ptr 0 0)), (3, .c (.ref 1)), (4, ft (.int .i64 (i : Nat))), (5, .c (.ptr 2 0)), (6, ft (.int .i64 (k : Nat)))], h := [(0, .box 57 [.im (.sl 109 (s.ts.map treA)), fl (.int .i8 s.o1), fl (.int .i8 s.o2), fl (.int .i8 s.o3), fl (.int .i8 s.o4), .im (.sl 150 s.sy), fl (.int .u8 (s.wr : Nat))]), (1, .row 74 (imR (acc.map trcA))), (2, .box 74 [fl (.int .i64 (id : Nat)), fl (.int .i64 1), .im (.sl 88 (ss.map spA))])], nx := 3, ex := [], nt := 59 } → K s1 := by
    intro k hk hpos s1 hf
    refine hK _ (W.fits hf ?_); clear hK K
    have f1 : decide (k ≤ acc.length) = true := by simp; omega
    have f2 : decide (k + (acc.length - k) ≤ acc.length) = true := by simp; omega
    have f3 : List.take (acc.length - k) (List.drop k (List.map trcA acc)) = List.drop k (List.map trcA acc) := List.take_of_length_le (by simp)
    clear c1 c3
    repeat' (first | refine W.seq fun K hK => ?_ | refine W.block ?_ | ((first | refine wR ?_ | refine wD ?_ | refine W.skip ?_ | refine W.exit ?_ | refine W.ret (Post.ret ?_) | refine aP ?_ | refine aF ?_); simp only [go_sem, reduceCtorEq, List.length_map, imR_len, f1, f2, f3, hw, Nat.sub_zero]) | refine wT ?_ | refine wF ?_ | refine wC (fun h => ?_) (fun h => ?_) | refine iK ?_ | refine aI2 ?_ | (refine hK _ ?_; clear hK K) | clear hK K)
    refine hKL.to (i + 1) (by omega) (by omega) (Fits.fit [(0, 0), (14, 1)] [1, 3, 4] 2 rfl rfl ?_)
    simp only [go_sem, hat, insT, hpos, List.map_append, List.map_take, List.map_drop, imR_app, imR_one, imL, trcA, List.map_cons, List.map_nil]
    exact Fits.rfl
  refine W.loopF (T := fun k : Nat => { t := [(1, .c (.ptr 0 0)), (3, .c (.ref 1)), (4, ft (.int .i64 (i : Nat))), (5, .c (.ptr 2 0)), (6, ft (.int .i64 (k : Nat)))], h := [(0, .box 57 [.im (.sl 109 (s.ts.map treA)), fl (.int .i8 s.o1), fl (.int .i8 s.o2), fl (.int .i8 s.o3), fl (.int .i8 s.o4), .im (.sl 150 s.sy), fl (.int .u8 (s.wr : Nat))]), (1, .row 74 (imR (acc.map trcA))), (2, .box 74 [fl (.int .i64 (id : Nat)), fl (.int .i64 1), .im (.sl 88 (ss.map spA))])], nx := 3, ex := [], nt := 59 })
    (Inv := fun k => k ≤ acc.length ∧ posT id acc acc.length = posT id acc k) (μ := fun k => k) (x0 := acc.length) (Fits.fit [(0, 0), (1, 1), (22, 2)] [1, 3, 4, 5, 6] 3 rfl rfl ?_) ⟨Nat.le_refl _, rfl⟩ ?_
  · simp only [go_sem]
    exact Fits.rfl
  clear c1 c3
  rintro k ⟨hk, hinv⟩ KL2 hKL2
  rcases k with _ | n
  · have e3 : decide (((0 : Nat) : Int) > 0) = false := by simp
    clear hK
    repeat' (first | refine W.seq fun K hK => ?_ | refine W.block ?_ | ((first | refine wR ?_ | refine wD ?_ | refine W.skip ?_ | refine W.exit ?_ | refine W.ret (Post.ret ?_) | refine aP ?_ | refine aF ?_); simp only [go_sem, reduceCtorEq, e3]) | refine wT ?_ | refine wF ?_ | refine wC (fun h => ?_) (fun h => ?_) | refine iK ?_ | refine aI2 ?_ | (refine hK _ ?_; clear hK K) | clear hK K)
    refine hK2 0 (Nat.zero_le _) (by rw [hinv]; rfl) _ (Fits.fit [(0, 0), (1, 1), (2, 2)] [1, 3, 4, 5, 6] 3 rfl rfl ?_)
    simp only [go_sem]
    exact Fits.rfl
  obtain ⟨y, hy, hym, hyd⟩ := drop_at (show n < acc.length by omega)
  have e3 : decide (((n + 1 : Nat) : Int) > 0) = true := by simp
  have e4 : IntKind.i64.wrap (((n + 1 : Nat) : Int) - 1) = (n : Int) := by rw [w64 (by omega) (by omega)]; omega
  have e5 : decide (n < acc.length) = true := by simp; omega
  have e6 : decide ((y.1 : Int) > (id : Int)) = decide (y.1 > id) := by congr 1; simp
  clear hK
  cases hg : decide (y.1 > id)
  · rw [hg] at e6
    repeat' (first | refine W.seq fun K hK => ?_ | refine W.block ?_ | ((first | refine wR ?_ | refine wD ?_ | refine W.skip ?_ | refine W.exit ?_ | refine W.ret (Post.ret ?_) | refine aP ?_ | refine aF ?_); simp only [go_sem, reduceCtorEq, List.getElem?_map, hy, trcA, imL, imR_len, List.length_map, e3, e4, e5, e6]) | refine wT ?_ | refine wF ?_ | refine wC (fun h => ?_) (fun h => ?_) | refine iK ?_ | refine aI2 ?_ | (refine hK _ ?_; clear hK K) | clear hK K)
    refine hK2 (n + 1) (by omega) ?_ _ (Fits.fit [(0, 0), (1, 1), (2, 2)] [1, 3, 4, 5, 6] 3 rfl rfl ?_)
    · rw [hinv]
      simp only [decide_eq_false_iff_not] at hg
      simp [posT, hy]
      omega
    · simp only [go_sem]
      exact Fits.rfl
  · rw [hg] at e6
    repeat' (first | refine W.seq fun K hK => ?_ | refine W.block ?_ | ((first | refine wR ?_ | refine wD ?_ | refine W.skip ?_ | refine W.exit ?_ | refine W.ret (Post.ret ?_) | refine aP ?_ | refine aF ?_); simp only [go_sem, reduceCtorEq, List.getElem?_map, hy, trcA, imL, imR_len, List.length_map, e3, e4, e5, e6]) | refine wT ?_ | refine wF ?_ | refine wC (fun h => ?_) (fun h => ?_) | refine iK ?_ | refine aI2 ?_ | (refine hK _ ?_; clear hK K) | clear hK K)
    refine hKL2.to n ⟨by omega, ?_⟩ (by simp) (Fits.fit [(0, 0), (1, 1), (2, 2)] [1, 3, 4, 5, 6] 3 rfl rfl ?_)
    · simp only [decide_eq_true_eq] at hg
      rw [hinv]
      simp [posT, hy]
      omega
    · simp only [go_sem]
      exact Fits.rfl
end Go.Proofs.YtigenjeealkdlaaGreat
namespace Go.Proofs.YtigenjeealkdlaaGreat
open Go.RowKit Go.Exe
def flatN (l : List Trc) (n : Nat) : List Spn := (l.take n).flatMap fun x => x.2
def stoSp (s : Sto) : List Spn := (trsS s).flatMap fun x => x.2
theorem flatN_at {l : List Trc} {i : Nat} {x : Trc} (h : l[i]? = some x) : flatN l (i + 1) = flatN l i ++ x.2 := by simp [flatN, List.take_add_one, h]
theorem insT_perm (x : Trc) (l : List Trc) : (insT x l).Perm (x :: l) := by
  unfold insT
  rw [List.append_assoc]
  show (l.take (posT x.1 l l.length) ++ x :: l.drop (posT x.1 l l.length)).Perm (x :: l)
  exact List.perm_middle.trans (by rw [List.take_append_drop])
theorem trsN_mem {s : Sto} : ∀ {n : Nat} {x : Trc}, x ∈ trsN s n → ∃ k t, k < n ∧ s.ts[k]? = some t ∧ 0 < t.cs.length ∧ x = (tidN s k, trcS s k t)
  | 0, x, h => by simp [trsN] at h
  | n + 1, x, h => by
    unfold trsN at h
    split at h
    · rename_i t ht
      split at h
      · obtain ⟨k, t, h1, h2⟩ := trsN_mem h
        exact ⟨k, t, by omega, h2⟩
      · rename_i h0
        rcases List.mem_cons.1 ((insT_perm _ _).mem_iff.1 h) with rfl | h
        · exact ⟨n, t, by omega, ht, by omega, rfl⟩
        · obtain ⟨k, t, h1, h2⟩ := trsN_mem h
          exact ⟨k, t, by omega, h2⟩
    · obtain ⟨k, t, h1, h2⟩ := trsN_mem h
      exact ⟨k, t, by omega, h2⟩
theorem trsS_sub {s : Sto} (hs : s.ok) : ∀ x ∈ trsS s, x.2.length ≤ 8 := by
  intro x hx
  obtain ⟨k, t, h1, h2, h3, rfl⟩ := trsN_mem hx
  have := (hs.1 t (List.mem_of_getElem? h2)).2.2.2
  simp [trcS_len, this]
theorem flatN_len {l : List Trc} (h : ∀ x ∈ l, x.2.length ≤ 8) : ∀ n, (flatN l n).length ≤ 8 * n
  | 0 => by simp [flatN]
  | n + 1 => by
    have := flatN_len h n
    cases e : l[n]? with
    | none => simp only [flatN, List.take_add_one, e] at this ⊢; simp at this ⊢; omega
    | some x => rw [flatN_at e, List.length_append]; have := h x (List.mem_of_getElem? e); omega
attribute [local irreducible] W AX Run RunD AStep AOp AOpX AStB AStH AStG Fits PCall GCall PostG Post Stop
/-! ### laws of stories -/
theorem spn_tr (s : Sto) (k : Nat) (t : Tre) : ∀ x ∈ trcS s k t, x.tr = (tidN s k : Nat) := fun x hx => by
  obtain ⟨i, hi⟩ := List.getElem?_of_mem hx
  have hl := (List.getElem?_eq_some_iff.1 hi).1
  rw [trcS_len] at hl
  rw [trcS_at (List.getElem?_eq_getElem hl)] at hi
  cases hi
  rfl
theorem trcS_mem {s : Sto} {k : Nat} {t : Tre} {x : Spn} (hx : x ∈ trcS s k t) : ∃ i c, t.cs[i]? = some c ∧ x = spnS s k t i c := by
  obtain ⟨i, hi⟩ := List.getElem?_of_mem hx
  have hl := (List.getElem?_eq_some_iff.1 hi).1
  rw [trcS_len] at hl
  rw [trcS_at (List.getElem?_eq_getElem hl)] at hi
  cases hi
  exact ⟨i, _, List.getElem?_eq_getElem hl, rfl⟩
theorem trcS_sorted (s : Sto) (k : Nat) (t : Tre) : (trcS s k t).Pairwise fun a b => a.id < b.id := by
  rw [List.pairwise_iff_getElem]
  intro i j hi hj hij
  have h1 : i < t.cs.length := by rw [trcS_len] at hi; exact hi
  have h2 : j < t.cs.length := by rw [trcS_len] at hj; exact hj
  have e1 := trcS_at (s := s) (k := k) (List.getElem?_eq_getElem h1)
  have e2 := trcS_at (s := s) (k := k) (List.getElem?_eq_getElem h2)
  rw [List.getElem?_eq_getElem hi] at e1
  rw [List.getElem?_eq_getElem hj] at e2
  rw [Option.some.inj e1, Option.some.inj e2]
  show ((i + 1 : Nat) : Int) < ((j + 1 : Nat) : Int)
  omega
theorem flat_trF : ∀ {L : List Trc} {t : Int}, (L.Pairwise fun a b => a.1 ≠ b.1) → (∀ x ∈ L, ∀ y ∈ x.2, y.tr = (x.1 : Nat)) → ∀ x ∈ L, ((x.1 : Nat) : Int) = t → trF (L.flatMap fun x => x.2) t = x.2
  | [], t, _, _, x, hx, _ => by simp at hx
  | z :: L, t, hp, ht, x, hx, e => by
    obtain ⟨h1, h2⟩ := List.pairwise_cons.1 hp
    have happ : trF ((z :: L).flatMap fun x => x.2) t = trF z.2 t ++ trF (L.flatMap fun x => x.2) t := by simp [trF]
    rw [happ]
    have hall : ∀ y : Trc, y ∈ z :: L → ((y.1 : Nat) : Int) = t → trF y.2 t = y.2 := fun y hy e => by
      unfold trF
      rw [List.filter_eq_self]
      intro w hw
      simp [ht y hy w hw, e]
    have hno : ∀ y : Trc, y ∈ z :: L → ((y.1 : Nat) : Int) ≠ t → trF y.2 t = [] := fun y hy e => by
      unfold trF
      rw [List.filter_eq_nil_iff]
      intro w hw
      simp [ht y hy w hw, e]
    rcases List.mem_cons.1 hx with rfl | hx
    · rw [hall x (by simp) e]
      have : trF (L.flatMap fun x => x.2) t = [] := by
        unfold trF
        rw [List.filter_eq_nil_iff]
        intro w hw
        obtain ⟨y, hy, hw⟩ := List.mem_flatMap.1 hw
        have h3 := h1 y hy
        have h4 := ht y (by simp [hy]) w hw
        simp [h4]
        intro h5
        apply h3
        omega
      rw [this, List.append_nil]
    · have h3 := h1 x hx
      rw [hno z (by simp) (by omega), List.nil_append]
      exact flat_trF h2 (fun y hy => ht y (by simp [hy])) x hx e
theorem flat_trF0 {L : List Trc} {t : Int} (ht : ∀ x ∈ L, ∀ y ∈ x.2, y.tr = (x.1 : Nat)) (h : ∀ x ∈ L, ((x.1 : Nat) : Int) ≠ t) : trF (L.flatMap fun x => x.2) t = [] := by
  unfold trF
  rw [List.filter_eq_nil_iff]
  intro w hw
  obtain ⟨y, hy, hw⟩ := List.mem_flatMap.1 hw
  have := ht y hy w hw
  simp [this, h y hy]
theorem story_trs {s : Sto} : ∀ x ∈ trsS s, ∀ y ∈ x.2, y.tr = (x.1 : Nat) := fun x hx y hy => by
  obtain ⟨k, t, _, _, _, rfl⟩ := trsN_mem hx
  exact spn_tr s k t y hy
theorem story_len {s : Sto} (hs : s.ok) : (stoSp s).length ≤ 24 := by
  have h1 := flatN_len (trsS_sub hs) (trsS s).length
  have h2 : (trsS s).length ≤ 3 := Nat.le_trans (trsN_len s _) hs.2.2.2.2.2.2
  have h3 : stoSp s = flatN (trsS s) (trsS s).length := by simp [stoSp, flatN]
  rw [h3]; omega
end Go.Proofs.YtigenjeealkdlaaGreat
namespace Go.Proofs.YtigenjeealkdlaaGreat
open Go.RowKit Go.Exe
/-! ### the final records of a story -/
def oddK (s : Sto) (x : Spn) (k : Nat) : Bool := match s.ts[k]? with
  | some t => decide (0 < t.cs.length) && decide (((tidN s k : Nat) : Int) = x.tr) && (match t.cs[(x.id - 1).toNat]? with | some c => decide (c.ta % 2 = 1) | none => false)
  | none => false
def revN (s : Sto) (x : Spn) (n : Nat) : Bool := (List.range n).any (oddK s x)
def rv1 (x : Spn) (b : Bool) : Spn := if b then { x with rev := 1 } else x
def finX (s : Sto) (x : Spn) : Spn := rv1 x (revN s x s.ts.length)
def finS (s : Sto) : List Spn := (stoSp s).map (finX s)
def finN (s : Sto) (i : Nat) : List Spn := ((stoSp s).take i).map (finX s) ++ (stoSp s).drop i
theorem revN_s (s : Sto) (x : Spn) (n : Nat) : revN s x (n + 1) = (revN s x n || oddK s x n) := by
  unfold revN
  rw [List.range_succ, List.any_append]
  simp
theorem finN_at {s : Sto} {i : Nat} {x : Spn} (h : (stoSp s)[i]? = some x) : (finN s i).set i x = finN s i ∧ (finN s i).set i (finX s x) = finN s (i + 1) ∧ (finN s i).length = (stoSp s).length := by
  obtain ⟨hi, he⟩ := List.getElem?_eq_some_iff.1 h
  have hl : (((stoSp s).take i).map (finX s)).length = i := by rw [List.length_map, List.length_take]; omega
  have hd : (stoSp s).drop i = x :: (stoSp s).drop (i + 1) := by rw [List.drop_eq_getElem_cons hi, he]
  have key : ∀ y, (finN s i).set i y = ((stoSp s).take i).map (finX s) ++ y :: (stoSp s).drop (i + 1) := fun y => by
    unfold finN
    rw [List.set_append_right _ _ (by omega), hl, Nat.sub_self, hd, List.set_cons_zero]
  refine ⟨by rw [key]; unfold finN; rw [hd], ?_, ?_⟩
  · rw [key]
    unfold finN
    rw [List.take_add_one, h]
    simp
  · unfold finN
    rw [List.length_append, hl, List.length_drop]; omega
theorem stoSp_mem {s : Sto} {x : Spn} (h : x ∈ stoSp s) : ∃ k t i c, s.ts[k]? = some t ∧ t.cs[i]? = some c ∧ x = spnS s k t i c := by
  obtain ⟨y, hy, hxy⟩ := List.mem_flatMap.1 h
  obtain ⟨k, t, _, hk, _, rfl⟩ := trsN_mem hy
  obtain ⟨i, c, hi, rfl⟩ := trcS_mem hxy
  exact ⟨k, t, i, c, hk, hi, rfl⟩
theorem tidN_inj {s : Sto} (hs : s.ok) {k k' : Nat} {t t' : Tre} (h : s.ts[k]? = some t) (h' : s.ts[k']? = some t') (e : tidN s k = tidN s k') : k = k' := by
  have h3 := hs.2.2.2.2.2.2
  have hk := (List.getElem?_eq_some_iff.1 h).1
  have hk' := (List.getElem?_eq_some_iff.1 h').1
  simp only [tidN, h, h'] at e
  omega
attribute [local irreducible] W AX Run RunD AStep AOp AOpX AStB AStH AStG Fits PCall GCall PostG Post Stop
theorem sspans_g (s : Sto) (hs : s.ok) : GCall Tryz.prog 73 0 (St.g [stoT s] [] 0) (St.r (.c (.ref 0)) [(0, .row 88 (imR ((stoSp s).map spA)))] 1) := by
  have h3 : (trsS s).length ≤ 3 := Nat.le_trans (trsN_len s _) hs.2.2.2.2.2.2
  have c22 := straces_c s hs
  have h8 := trsS_sub hs
  rw [show stoSp s = flatN (trsS s) (trsS s).length by simp [stoSp, flatN]]
  generalize trsS s = l at c22 h3 h8 ⊢
  simp only [stoT, stoA, List.map] at c22 ⊢
  refine GCall.introG (nt := 22) (rs := [.tmp 2]) Tryz.func73 rfl ⟨by kernel_rfl, by kernel_rfl, by kernel_rfl⟩ (by simp) ?_
  rintro ⟨P, w0, ok0, may, np, pblk⟩ rfl rfl
  simp only [go_sem]
  repeat' (first | refine W.seq fun K hK => ?_ | refine W.block ?_ | ((first | refine wR ?_ | refine wD ?_ | refine W.skip ?_ | refine W.exit ?_ | refine W.ret (Post.ret ?_) | refine aP ?_ | refine aF ?_); simp only [go_sem, reduceCtorEq]) | refine wT ?_ | refine wF ?_ | refine wC (fun h => ?_) (fun h => ?_) | refine iK ?_ | refine aI2 ?_ | (refine hK _ ?_; clear hK K) | clear hK K)
  refine W.loopF (T := fun i : Nat => { t := [(3, .c (.ref 0)), (4, trcsT l), (5, ft (.int .i64 (i : Nat)))], h := [(0, .row 88 (imR ((flatN l i).map spA)))], nx := 1, ex := [], nt := 22 })
    (Inv := fun i => i ≤ l.length) (μ := fun i => l.length - i) (x0 := 0) ?_ (Nat.zero_le _) ?_
  · refine Fits.adopt 3 99 88 rfl rfl rfl tE88 rfl ?_
    refine Fits.fit [(99, 0)] [3, 4, 5] 1 rfl rfl ?_
    simp only [go_sem, flatN, List.take_zero, List.flatMap_nil, List.map_nil, imR_nil]
    exact Fits.rfl
  clear c22
  rintro i hi KL hKL
  by_cases hlt : i < l.length
  · obtain ⟨x, hx, hm, hd⟩ := drop_at hlt
    have e1 : decide ((i : Int) < l.length) = true := by simp; omega
    have hw := w64s i (by omega)
    have b1 := flatN_len h8 i
    have b2 := h8 x hm
    have hat := flatN_at hx
    repeat' (first | refine W.seq fun K hK => ?_ | refine W.block ?_ | ((first | refine wR ?_ | refine wD ?_ | refine W.skip ?_ | refine W.exit ?_ | refine W.ret (Post.ret ?_) | refine aP ?_ | refine aF ?_); simp only [go_sem, reduceCtorEq, List.getElem?_map, hx, trcA, e1, hw, List.length_map, imR_len]) | refine wT ?_ | refine wF ?_ | refine wC (fun h => ?_) (fun h => ?_) | refine iK ?_ | refine aI2 ?_ | (refine hK _ ?_; clear hK K) | clear hK K)
    refine hKL.to (i + 1) (by omega) (by omega) (Fits.fit [(11, 0)] [3, 4, 5] 1 rfl rfl ?_)
    simp only [go_sem, hat, List.map_append, imR_app]
    exact Fits.rfl
  · obtain rfl : i = l.length := by omega
    have e1 : decide ((l.length : Int) < l.length) = false := by simp
    clear hKL
    repeat' (first | refine W.seq fun K hK => ?_ | refine W.block ?_ | ((first | refine wR ?_ | refine wD ?_ | refine W.skip ?_ | refine W.exit ?_ | refine W.ret (Post.ret ?_) | refine aP ?_ | refine aF ?_); simp only [go_sem, reduceCtorEq, e1, List.length_map]) | refine wT ?_ | refine wF ?_ | refine wC (fun h => ?_) (fun h => ?_) | refine iK ?_ | refine aI2 ?_ | (refine hK _ ?_; clear hK K) | clear hK K)
    refine W.ret (PostG.ret (Fits.fit [(0, 0)] [2] 1 rfl rfl Fits.rfl) rfl rfl ?_)
    simp only [St.r, go_sem]
theorem final_c (s : Sto) (hs : s.ok) : PCall Tryz.prog 40 [stoT s] (spsT (finS s)) := by
  have c73 := sspans_g s hs
  have c74 : ∀ k, k < s.ts.length → PCall Tryz.prog 74 [stoT s, ft (.int .i64 (k : Nat))] (ft (.int .i64 (tidN s k : Nat))) := tid_c s hs
  have hlen := story_len hs
  have h3 := hs.2.2.2.2.2.2
  have hfin : finS s = finN s (stoSp s).length := by unfold finS finN; simp
  rw [hfin]
  have hst : ∀ i x, (stoSp s)[i]? = some x → (finN s i).set i x = finN s i ∧ (finN s i).set i (finX s x) = finN s (i + 1) ∧ (finN s i).length = (stoSp s).length := fun i x h => finN_at h
  have h0 : finN s 0 = stoSp s := by unfold finN; simp
  have hmem : ∀ x, x ∈ stoSp s → ∃ k t i c, s.ts[k]? = some t ∧ t.cs[i]? = some c ∧ x = spnS s k t i c := fun x h => stoSp_mem h
  simp only [stoT, stoA, List.map] at c73 c74 ⊢
  refine PCall.intro (nt := 64) (rs := [.tmp 2]) Tryz.func40 rfl ⟨by kernel_rfl, by kernel_rfl, by kernel_rfl⟩ (by simp) ?_
  rintro ⟨P, w0, ok0, may, np, pblk⟩ rfl rfl
  repeat' (first | refine W.seq fun K hK => ?_ | refine W.block ?_ | ((first | refine wR ?_ | refine wD ?_ | refine W.skip ?_ | refine W.exit ?_ | refine W.ret (Post.ret ?_) | refine aP ?_ | refine aF ?_); simp only [go_sem, reduceCtorEq]) | refine wT ?_ | refine wF ?_ | refine wC (fun h => ?_) (fun h => ?_) | refine iK ?_ | refine aI2 ?_ | (refine hK _ ?_; clear hK K) | clear hK K)
  refine AX.gcall [] rfl rfl (c73) (by simp only [go_sem, reduceCtorEq]) (by simp only [go_sem, reduceCtorEq]) rfl rfl (by simp only [go_sem, Obj.owns]) rfl (by simp only [go_sem, Obj.owns]) rfl rfl ?_
  simp only [go_sem, reduceCtorEq]
  repeat' (first | refine W.seq fun K hK => ?_ | refine W.block ?_ | ((first | refine wR ?_ | refine wD ?_ | refine W.skip ?_ | refine W.exit ?_ | refine W.ret (Post.ret ?_) | refine aP ?_ | refine aF ?_); simp only [go_sem, reduceCtorEq]) | refine wT ?_ | refine wF ?_ | refine wC (fun h => ?_) (fun h => ?_) | refine iK ?_ | refine aI2 ?_ | (refine hK _ ?_; clear hK K) | clear hK K)
  refine W.loopF (T := fun i : Nat => { t := [(1, .c (.ptr 0 0)), (3, .c (.ref 1)), (4, ft (.int .i64 (i : Nat)))], h := [(0, .box 57 ((stoA s).map .im)), (1, .row 88 (imR ((finN s i).map spA)))], nx := 2, ex := [], nt := 64 })
    (Inv := fun i => i ≤ (stoSp s).length) (μ := fun i => (stoSp s).length - i) (x0 := 0) ?_ (Nat.zero_le _) ?_
  · refine Fits.fit [(0, 0), (3, 1)] [1, 3, 4] 2 rfl rfl ?_
    simp only [go_sem, stoA, List.map, h0]
    exact Fits.rfl
  rintro i hi KL hKL
  simp only [stoA, List.map] at hKL ⊢
  by_cases hlt : i < (stoSp s).length
  rotate_left
  · obtain rfl : i = (stoSp s).length := by omega
    have e1 : decide (((stoSp s).length : Int) < (stoSp s).length) = false := by simp
    have hl : (finN s (stoSp s).length).length = (stoSp s).length := by unfold finN; simp
    clear hKL c73 c74
    repeat' (first | refine W.seq fun K hK => ?_ | refine W.block ?_ | ((first | refine wR ?_ | refine wD ?_ | refine W.skip ?_ | refine W.exit ?_ | refine W.ret (Post.ret ?_) | refine aP ?_ | refine aF ?_); simp only [go_sem, reduceCtorEq, List.length_map, imR_len, hl, e1]) | refine wT ?_ | refine wF ?_ | refine wC (fun h => ?_) (fun h => ?_) | refine iK ?_ | refine aI2 ?_ | (refine hK _ ?_; clear hK K) | clear hK K)
  obtain ⟨x, hx, hm, hd⟩ := drop_at hlt
  obtain ⟨g1, g2, g3⟩ := hst i x hx
  have e1 : decide ((i : Int) < (stoSp s).length) = true := by simp; omega
  have e2 : decide (i < (stoSp s).length) = true := by simp; omega
  have hw := w64s i (by omega)
  clear c73 hst
  have hKL2 := fun (s' : St) h => hKL.to (s' := s') (i + 1) (by omega) (by omega) h
  clear hKL
  repeat' (first | refine W.seq fun K hK => ?_ | refine W.block ?_ | ((first | refine wR ?_ | refine wD ?_ | refine W.skip ?_ | refine W.exit ?_ | refine W.ret (Post.ret ?_) | refine aP ?_ | refine aF ?_); simp only [go_sem, reduceCtorEq, List.length_map, imR_len, g3, e1]) | refine wT ?_ | refine wF ?_ | refine wC (fun h => ?_) (fun h => ?_) | refine iK ?_ | refine aI2 ?_ | (refine hK _ ?_; clear hK K) | clear hK K)
  rw [← g2] at hKL2
  obtain ⟨A, hA⟩ : ∃ A, A = finN s i := ⟨_, rfl⟩
  rw [← hA] at g1 g2 g3 hKL2
  refine W.loopF (T := fun j : Nat => { t := [(1, .c (.ptr 0 0)), (3, .c (.ref 1)), (4, ft (.int .i64 (i : Nat))), (5, ft (.int .i64 (j : Nat)))], h := [(0, .box 57 ((stoA s).map .im)), (1, .row 88 (imR ((A.set i (rv1 x (revN s x j))).map spA)))], nx := 2, ex := [], nt := 64 })
    (Inv := fun j => j ≤ s.ts.length) (μ := fun j => s.ts.length - j) (x0 := 0) ?_ (Nat.zero_le _) ?_
  · refine Fits.fit [(0, 0), (1, 1)] [1, 3, 4, 5] 2 rfl rfl ?_
    have : A.set i (rv1 x (revN s x 0)) = A := by rw [show rv1 x (revN s x 0) = x from rfl]; exact g1
    simp only [go_sem, this, ← hA]
    exact Fits.rfl
  rintro j hj KJ hKJ
  simp only [stoA, List.map] at hKJ ⊢
  by_cases hlt2 : j < s.ts.length
  rotate_left
  · obtain rfl : j = s.ts.length := by omega
    have e3 : decide ((s.ts.length : Int) < s.ts.length) = false := by simp
    clear hKJ c74
    repeat' (first | refine W.seq fun K hK => ?_ | refine W.block ?_ | ((first | refine wR ?_ | refine wD ?_ | refine W.skip ?_ | refine W.exit ?_ | refine W.ret (Post.ret ?_) | refine aP ?_ | refine aF ?_); simp only [go_sem, reduceCtorEq, List.length_map, e3, hw]) | refine wT ?_ | refine wF ?_ | refine wC (fun h => ?_) (fun h => ?_) | refine iK ?_ | refine aI2 ?_ | (refine hK _ ?_; clear hK K) | clear hK K)
    refine hKL2 _ (Fits.fit [(0, 0), (1, 1)] [1, 3, 4] 2 rfl rfl ?_)
    simp only [go_sem, finX]
    exact Fits.rfl
  obtain ⟨t, ht, htm, _⟩ := drop_at hlt2
  have e3 : decide ((j : Int) < s.ts.length) = true := by simp; omega
  have e4 : decide (j < s.ts.length) = true := by simp; omega
  have hw2 := w64s j (by omega)
  have c1 := c74 j hlt2
  clear c74 hKL2
  obtain ⟨k0, t0, i0, c0, hk0, hc0, hx0⟩ := hmem x hm
  have hrn := revN_s s x j
  have hod : oddK s x j = (decide (0 < t.cs.length) && decide (((tidN s j : Nat) : Int) = x.tr) && (match t.cs[(x.id - 1).toNat]? with | some c => decide (c.ta % 2 = 1) | none => false)) := by unfold oddK; rw [ht]
  obtain ⟨Y, hY⟩ : ∃ Y, Y = rv1 x (revN s x j) := ⟨_, rfl⟩
  have hYt : Y.tr = x.tr := by rw [hY]; unfold rv1; split <;> rfl
  have hYi : Y.id = x.id := by rw [hY]; unfold rv1; split <;> rfl
  have hY1 : ({ Y with rev := 1 } : Spn) = rv1 x true := by rw [hY]; unfold rv1; split <;> rfl
  have hrow : (imR ((A.set i Y).map spA))[i]? = some ((spA Y).map .im) := imR_at (List.getElem?_set_self (by omega))
  have hAl : (A.set i Y).length = (stoSp s).length := by rw [List.length_set]; exact g3
  have hset : (imR ((A.set i Y).map spA)).set i ((spA { Y with rev := 1 }).map .im) = imR ((A.set i { Y with rev := 1 }).map spA) := by rw [imR_set, List.set_set]
  rw [← hY]
  have hKJ2 := fun (s' : St) h => hKJ.to (s' := s') (j + 1) (by omega) (by omega) h
  rw [hrn] at hKJ2
  clear hKJ
  cases q1 : decide (0 < t.cs.length) with
  | false =>
    have q1' : decide (((t.cs.length : Nat) : Int) > 0) = false := by have := of_decide_eq_false q1; rw [decide_eq_false_iff_not]; omega
    have : oddK s x j = false := by rw [hod, q1]; simp
    rw [this, Bool.or_false, ← hY] at hKJ2
    clear c1
    repeat' (first | refine W.seq fun K hK => ?_ | refine W.block ?_ | ((first | refine wR ?_ | refine wD ?_ | refine W.skip ?_ | refine W.exit ?_ | refine W.ret (Post.ret ?_) | refine aP ?_ | refine aF ?_); simp only [go_sem, reduceCtorEq, List.getElem?_map, ht, treA, hrow, q1', e2, e3, e4, hw2, List.length_map, imR_len, hAl]) | refine wT ?_ | refine wF ?_ | refine wC (fun h => ?_) (fun h => ?_) | refine iK ?_ | refine aI2 ?_ | (refine hK _ ?_; clear hK K) | clear hK K)
    refine hKJ2 _ (Fits.fit [(0, 0), (1, 1)] [1, 3, 4, 5] 2 rfl rfl ?_)
    simp only [go_sem]
    exact Fits.rfl
  | true =>
  have q1' : decide (((t.cs.length : Nat) : Int) > 0) = true := by have := of_decide_eq_true q1; rw [decide_eq_true_eq]; omega
  cases q2 : decide (((tidN s j : Nat) : Int) = x.tr) with
  | false =>
    have q2' : (((tidN s j : Nat) : Int) == Y.tr) = false := by rw [hYt]; have := of_decide_eq_false q2; simpa using this
    have : oddK s x j = false := by rw [hod, q2]; simp
    rw [this, Bool.or_false, ← hY] at hKJ2
    repeat' (first | refine W.seq fun K hK => ?_ | refine W.block ?_ | ((first | refine wR ?_ | refine wD ?_ | refine W.skip ?_ | refine W.exit ?_ | refine W.ret (Post.ret ?_) | refine aP ?_ | refine aF ?_); simp only [go_sem, reduceCtorEq, List.getElem?_map, ht, treA, hrow, spA, q1', q2', e2, e3, e4, hw2, List.length_map, imR_len, hAl]) | refine wT ?_ | refine wF ?_ | refine wC (fun h => ?_) (fun h => ?_) | refine iK ?_ | refine aI2 ?_ | (refine hK _ ?_; clear hK K) | clear hK K)
    refine hKJ2 _ (Fits.fit [(0, 0), (1, 1)] [1, 3, 4, 5] 2 rfl rfl ?_)
    simp only [go_sem]
    exact Fits.rfl
  | true =>
  have q2' : (((tidN s j : Nat) : Int) == Y.tr) = true := by rw [hYt]; have := of_decide_eq_true q2; simpa using this
  have hjk : j = k0 := by
    refine tidN_inj hs ht hk0 ?_
    have h1 := of_decide_eq_true q2
    rw [hx0] at h1
    have h2 : (spnS s k0 t0 i0 c0).tr = ((tidN s k0 : Nat) : Int) := rfl
    rw [h2] at h1
    omega
  subst hjk
  obtain rfl : t = t0 := by rw [ht] at hk0; exact Option.some.inj hk0
  have hxi : x.id = ((i0 + 1 : Nat) : Int) := by rw [hx0]; rfl
  have hi8 : i0 < t.cs.length := (List.getElem?_eq_some_iff.1 hc0).1
  have h8 := (hs.1 t htm).2.2.2
  have hwi : IntKind.i64.wrap (Y.id - 1) = ((i0 : Nat) : Int) := by rw [hYi, hxi, w64 (by omega) (by omega)]; omega
  have hidx : (x.id - 1).toNat = i0 := by rw [hxi]; omega
  have q4 : decide (i0 < t.cs.length) = true := by simp; omega
  rw [q1, q2, hidx, hc0] at hod
  simp only [Bool.true_and] at hod
  have hta := (hs.1 t htm).2.2.1 c0 (List.mem_of_getElem? hc0)
  have hta2 : c0.ta < 256 := hta.2.2.2.2.2.2.2.2.2
  have q5 : Int.tmod ((c0.ta : Nat) : Int) 2 = ((c0.ta % 2 : Nat) : Int) := tm2 _
  have q6 : IntKind.u8.wrap ((c0.ta % 2 : Nat) : Int) = ((c0.ta % 2 : Nat) : Int) := w8n _ (by omega)
  cases q3 : decide (c0.ta % 2 = 1) with
  | false =>
    have q3' : (((c0.ta % 2 : Nat) : Int) == 1) = false := by have := of_decide_eq_false q3; simp; omega
    rw [q3] at hod
    rw [hod, Bool.or_false, ← hY] at hKJ2
    repeat' (first | refine W.seq fun K hK => ?_ | refine W.block ?_ | ((first | refine wR ?_ | refine wD ?_ | refine W.skip ?_ | refine W.exit ?_ | refine W.ret (Post.ret ?_) | refine aP ?_ | refine aF ?_); simp only [go_sem, reduceCtorEq, List.getElem?_map, ht, treA, hrow, spA, calA, hc0, q1', q2', q3', q4, q5, q6, hwi, e2, e3, e4, hw2, List.length_map, imR_len, hAl]) | refine wT ?_ | refine wF ?_ | refine wC (fun h => ?_) (fun h => ?_) | refine iK ?_ | refine aI2 ?_ | (refine hK _ ?_; clear hK K) | clear hK K)
    refine hKJ2 _ (Fits.fit [(0, 0), (1, 1)] [1, 3, 4, 5] 2 rfl rfl ?_)
    simp only [go_sem]
    exact Fits.rfl
  | true =>
    have q3' : (((c0.ta % 2 : Nat) : Int) == 1) = true := by have := of_decide_eq_true q3; simp; omega
    rw [q3] at hod
    rw [hod, Bool.or_true, ← hY1] at hKJ2
    repeat' (first | refine W.seq fun K hK => ?_ | refine W.block ?_ | ((first | refine wR ?_ | refine wD ?_ | refine W.skip ?_ | refine W.exit ?_ | refine W.ret (Post.ret ?_) | refine aP ?_ | refine aF ?_); simp only [go_sem, reduceCtorEq, List.getElem?_map, ht, treA, hrow, spA, calA, hc0, q1', q2', q3', q4, q5, q6, hwi, e2, e3, e4, hw2, List.length_map, imR_len, hAl]) | refine wT ?_ | refine wF ?_ | refine wC (fun h => ?_) (fun h => ?_) | refine iK ?_ | refine aI2 ?_ | (refine hK _ ?_; clear hK K) | clear hK K)
    refine hKJ2 _ (Fits.fit [(0, 0), (1, 1)] [1, 3, 4, 5] 2 rfl rfl ?_)
    simp only [spA, List.map] at hset
    simp only [go_sem, hset]
    exact Fits.rfl
end Go.Proofs.YtigenjeealkdlaaGreat
namespace Go.Proofs.YtigenjeealkdlaaGreat
open Go.RowKit Go.Exe
/-! ### the exchanges of a story -/
structure Syn where
  a : Nat
  b : Nat
  c : Nat
  d : Nat
  e : Nat
def Syn.ok (y : Syn) : Prop := y.a < 256 ∧ y.b < 256 ∧ y.c < 256 ∧ y.d < 256 ∧ y.e < 256
def synA (y : Syn) : List AV := [.flat (.int .u8 (y.a : Nat)), .flat (.int .u8 (y.b : Nat)), .flat (.int .u8 (y.c : Nat)), .flat (.int .u8 (y.d : Nat)), .flat (.int .u8 (y.e : Nat))]
structure Exc where
  f : Int
  t : Int
  se : Int
  re : Int
  le : Int
def exA (x : Exc) : List AV := [.flat (.int .i64 x.f), .flat (.int .i64 x.t), .flat (.int .i64 x.se), .flat (.int .i64 x.re), .flat (.int .i64 x.le)]
def excF (s : Sto) (y : Syn) : Exc := ⟨((1 + y.a % 4 : Nat) : Int), ((1 + y.b % 4 : Nat) : Int), ((1000 + y.c % 64 : Nat) : Int) + offC s (1 + y.a % 4), ((1000 + y.c % 64 + y.d % 16 : Nat) : Int) + offC s (1 + y.b % 4), max 0 (((y.d % 16 : Nat) : Int) - ((y.e % 4 : Nat) : Int))⟩
attribute [local irreducible] W AX Run RunD AStep AOp AOpX AStB AStH AStG Fits PCall GCall PostG Post Stop
theorem exchanges_c (s : Sto) (hs : s.ok) (ys : List Syn) (hy : ∀ y ∈ ys, y.ok) (hsy : s.sy = ys.map synA) (h6 : ys.length ≤ 6) : PCall Tryz.prog 63 [stoT s] (.c (.im (.sl 112 ((ys.map (excF s)).map exA)))) := by
  have c94 : ∀ n : Nat, PCall Tryz.prog 94 [stoT s, ft (.int .i64 ((1 + n % 4 : Nat) : Int))] (ft (.int .i64 (offC s (1 + n % 4)))) := fun n => off_c s hs (1 + n % 4) (by omega) (by omega)
  have hob := offC_b s
  simp only [stoT, stoA, List.map, hsy] at c94 ⊢
  refine PCall.intro (nt := 70) (rs := [.tmp 2]) Tryz.func63 rfl ⟨by kernel_rfl, by kernel_rfl, by kernel_rfl⟩ (by simp) ?_
  rintro ⟨P, w0, ok0, may, np, pblk⟩ rfl rfl
  repeat' (first | refine W.seq fun K hK => ?_ | refine W.block ?_ | ((first | refine wR ?_ | refine wD ?_ | refine W.skip ?_ | refine W.exit ?_ | refine W.ret (Post.ret ?_) | refine aP ?_ | refine aF ?_); simp only [go_sem, reduceCtorEq]) | refine wT ?_ | refine wF ?_ | refine wC (fun h => ?_) (fun h => ?_) | refine iK ?_ | refine aI2 ?_ | (refine hK _ ?_; clear hK K) | clear hK K)
  refine W.loopF (T := fun i : Nat => { t := [(1, .c (.ptr 0 0)), (3, .c (.ref 1)), (4, ft (.int .i64 (i : Nat)))], h := [(0, .box 57 ((stoA s).map .im)), (1, .row 112 (imR (((ys.take i).map (excF s)).map exA)))], nx := 2, ex := [], nt := 70 })
    (Inv := fun i => i ≤ ys.length) (μ := fun i => ys.length - i) (x0 := 0) ?_ (Nat.zero_le _) ?_
  · refine Fits.adopt 3 900 112 rfl rfl rfl tE112 rfl ?_
    refine Fits.fit [(0, 0), (900, 1)] [1, 3, 4] 2 rfl rfl ?_
    simp only [go_sem, stoA, List.map, hsy]
    exact Fits.rfl
  rintro i hi KL hKL
  simp only [stoA, List.map, hsy] at hKL ⊢
  by_cases hlt : i < ys.length
  rotate_left
  · obtain rfl : i = ys.length := by omega
    have e1 : decide ((ys.length : Int) < ys.length) = false := by simp
    rw [List.take_length]
    clear hKL c94
    repeat' (first | refine W.seq fun K hK => ?_ | refine W.block ?_ | ((first | refine wR ?_ | refine wD ?_ | refine W.skip ?_ | refine W.exit ?_ | refine W.ret (Post.ret ?_) | refine aP ?_ | refine aF ?_); simp only [go_sem, reduceCtorEq, List.length_map, e1]) | refine wT ?_ | refine wF ?_ | refine wC (fun h => ?_) (fun h => ?_) | refine iK ?_ | refine aI2 ?_ | (refine hK _ ?_; clear hK K) | clear hK K)
  obtain ⟨y, hx, hm, hd⟩ := drop_at hlt
  obtain ⟨b1, b2, b3, b4, b5⟩ := hy y hm
  have e1 : decide ((i : Int) < ys.length) = true := by simp; omega
  have e2 : decide (i < ys.length) = true := by simp; omega
  have hw := w64s i (by omega)
  have ca := c94 y.a
  have cb := c94 y.b
  have oa := hob (1 + y.a % 4)
  have ob := hob (1 + y.b % 4)
  clear c94 hob
  have m1 : IntKind.i64.wrap (Int.tmod ((y.a : Nat) : Int) 4) = ((y.a % 4 : Nat) : Int) := by rw [tm4, w64n _ (by omega)]
  have m2 : IntKind.i64.wrap (Int.tmod ((y.b : Nat) : Int) 4) = ((y.b % 4 : Nat) : Int) := by rw [tm4, w64n _ (by omega)]
  have m3 : IntKind.i64.wrap (Int.tmod ((y.c : Nat) : Int) 64) = ((y.c % 64 : Nat) : Int) := by rw [tm64, w64n _ (by omega)]
  have m4 : IntKind.i64.wrap (Int.tmod ((y.d : Nat) : Int) 16) = ((y.d % 16 : Nat) : Int) := by rw [tm16, w64n _ (by omega)]
  have m5 : IntKind.i64.wrap (Int.tmod ((y.e : Nat) : Int) 4) = ((y.e % 4 : Nat) : Int) := by rw [tm4, w64n _ (by omega)]
  have n1 : IntKind.i64.wrap (1 + ((y.a % 4 : Nat) : Int)) = ((1 + y.a % 4 : Nat) : Int) := by rw [w64 (by omega) (by omega)]; omega
  have n2 : IntKind.i64.wrap (1 + ((y.b % 4 : Nat) : Int)) = ((1 + y.b % 4 : Nat) : Int) := by rw [w64 (by omega) (by omega)]; omega
  have n3 : IntKind.i64.wrap (1000 + ((y.c % 64 : Nat) : Int)) = ((1000 + y.c % 64 : Nat) : Int) := by rw [w64 (by omega) (by omega)]; omega
  have n4 : IntKind.i64.wrap (((1000 + y.c % 64 : Nat) : Int) + offC s (1 + y.a % 4)) = ((1000 + y.c % 64 : Nat) : Int) + offC s (1 + y.a % 4) := w64 (by omega) (by omega)
  have n5 : IntKind.i64.wrap (((1000 + y.c % 64 : Nat) : Int) + ((y.d % 16 : Nat) : Int)) = ((1000 + y.c % 64 + y.d % 16 : Nat) : Int) := by rw [w64 (by omega) (by omega)]; omega
  have n6 : IntKind.i64.wrap (((1000 + y.c % 64 + y.d % 16 : Nat) : Int) + offC s (1 + y.b % 4)) = ((1000 + y.c % 64 + y.d % 16 : Nat) : Int) + offC s (1 + y.b % 4) := w64 (by omega) (by omega)
  have n7 : IntKind.i64.wrap (((y.d % 16 : Nat) : Int) - ((y.e % 4 : Nat) : Int)) = ((y.d % 16 : Nat) : Int) - ((y.e % 4 : Nat) : Int) := w64 (by omega) (by omega)
  have n8 : (if ((y.d % 16 : Nat) : Int) - ((y.e % 4 : Nat) : Int) > 0 then ((y.d % 16 : Nat) : Int) - ((y.e % 4 : Nat) : Int) else 0) = max 0 (((y.d % 16 : Nat) : Int) - ((y.e % 4 : Nat) : Int)) := by split <;> omega
  have hrow : imR (((ys.take (i + 1)).map (excF s)).map exA) = imR (((ys.take i).map (excF s)).map exA) ++ [(exA (excF s y)).map .im] := by rw [List.take_add_one, hx]; simp [imR, imL]
  have hil : ((ys.take i).map (excF s)).length = i := by rw [List.length_map, List.length_take]; omega
  have b6 : (i + 1) * 40 ≤ 140737488355328 := by omega
  repeat' (first | refine W.seq fun K hK => ?_ | refine W.block ?_ | ((first | refine wR ?_ | refine wD ?_ | refine W.skip ?_ | refine W.exit ?_ | refine W.ret (Post.ret ?_) | refine aP ?_ | refine aF ?_); simp only [go_sem, reduceCtorEq, List.getElem?_map, hx, synA, List.length_map, e1, e2, hw, m1, m2, m3, m4, m5, n1, n2, n3, n4, n5, n6, n7, n8, hil, b6, imR_len]) | refine wT ?_ | refine wF ?_ | refine wC (fun h => ?_) (fun h => ?_) | refine iK ?_ | refine aI2 ?_ | (refine hK _ ?_; clear hK K) | clear hK K)
  refine hKL.to (i + 1) (by omega) (by omega) (Fits.fit [(0, 0), (68, 1)] [1, 3, 4] 2 rfl rfl ?_)
  simp only [go_sem, hrow]
  exact Fits.rfl
end Go.Proofs.YtigenjeealkdlaaGreat
namespace Go.Proofs.YtigenjeealkdlaaGreat
open Go.RowKit Go.Exe
/-! ### the fragments of a story -/
structure Frg where
  ag : Int
  sq : Int
  sp : List Spn
  ex : List Exc
def nlA (e : Nat) (l : List (List AV)) : AV := match l with
  | [] => .flat (.slice none 0 0)
  | _ => .sl e l
def frgR (f : Frg) : List AV := [.flat (.int .i64 f.ag), .flat (.int .i64 f.sq), nlA 88 (f.sp.map spA), nlA 112 (f.ex.map exA)]
def frgA (f : Frg) : List AV := [.flat (.int .i64 f.ag), .flat (.int .i64 f.sq), .sl 88 (f.sp.map spA), .sl 112 (f.ex.map exA)]
def erl (x : Spn) : Spn := { x with rev := 0, en := x.st, er := false }
def mineE (c : Int) (x : Spn) : List Spn := if x.clk = c then (if x.rev > 0 then [erl x, x] else [x]) else []
def mineF (c : Int) (l : List Spn) : List Spn := l.flatMap (mineE c)
def chunks (c : Int) (n : Nat) (m : List Spn) : Nat → Nat → Nat → List Frg
  | 0, _, _ => []
  | k + 1, p, q => if p < m.length then ⟨c, (q : Nat), (m.take (min m.length (p + n))).drop p, []⟩ :: chunks c n m k (p + n) (q + 1) else []
def lastF (c : Int) (q : Nat) (xs : List Exc) : List Frg := if xs = [] then [] else [⟨c, (q : Nat), [], xs⟩]
def exsF (c : Int) (xs : List Exc) : List Exc := xs.filter fun x => x.t == c
def agF (n : Nat) (fin : List Spn) (xs : List Exc) (c : Int) : List Frg := chunks c n (mineF c fin) (mineF c fin).length 0 0 ++ lastF c (chunks c n (mineF c fin) (mineF c fin).length 0 0).length (exsF c xs)
def frsN (n : Nat) (fin : List Spn) (xs : List Exc) (k : Nat) : List Frg := (List.range k).flatMap fun i => agF n fin xs ((i + 1 : Nat) : Int)
theorem mineE_len (c : Int) (x : Spn) : (mineE c x).length ≤ 2 := by unfold mineE; split <;> (try split) <;> simp
theorem mineF_len (c : Int) : ∀ l : List Spn, (mineF c l).length ≤ 2 * l.length
  | [] => by simp [mineF]
  | x :: r => by
    have h1 := mineF_len c r
    have h2 := mineE_len c x
    unfold mineF at h1 ⊢
    rw [List.flatMap_cons, List.length_append, List.length_cons]
    omega
theorem mineF_step {c : Int} {l : List Spn} {i : Nat} {x : Spn} (h : l[i]? = some x) : mineF c (l.take (i + 1)) = mineF c (l.take i) ++ mineE c x := by
  unfold mineF
  simp [List.take_add_one, h, List.flatMap_append]
theorem chunks_len (c : Int) (n : Nat) (m : List Spn) : ∀ k p q, (chunks c n m k p q).length ≤ k
  | 0, _, _ => by simp [chunks]
  | k + 1, p, q => by
    unfold chunks
    split
    · have := chunks_len c n m k (p + n) (q + 1)
      rw [List.length_cons]; omega
    · simp
theorem agF_len (n : Nat) (fin : List Spn) (xs : List Exc) (c : Int) : (agF n fin xs c).length ≤ 2 * fin.length + 1 := by
  have h1 := chunks_len c n (mineF c fin) (mineF c fin).length 0 0
  have h2 := mineF_len c fin
  unfold agF lastF
  rw [List.length_append]
  split <;> simp <;> omega
theorem frsN_s (n : Nat) (fin : List Spn) (xs : List Exc) (k : Nat) : frsN n fin xs (k + 1) = frsN n fin xs k ++ agF n fin xs ((k + 1 : Nat) : Int) := by
  unfold frsN
  rw [List.range_succ, List.flatMap_append]
  simp
theorem frsN_len (n : Nat) (fin : List Spn) (xs : List Exc) : ∀ k, (frsN n fin xs k).length ≤ k * (2 * fin.length + 1)
  | 0 => by simp [frsN]
  | k + 1 => by
    have h1 := frsN_len n fin xs k
    have h2 := agF_len n fin xs ((k + 1 : Nat) : Int)
    rw [frsN_s, List.length_append, Nat.succ_mul]
    omega
theorem nlA_ne {e : Nat} {l : List (List AV)} (h : 0 < l.length) : nlA e l = .sl e l := by
  cases l with
  | nil => simp at h
  | cons x r => rfl
theorem frg_row (l : List Frg) (f : Frg) : imR (l.map frgR) ++ [(frgR f).map .im] = imR ((l ++ [f]).map frgR) := by simp [imR, imL]
theorem spn_row (l : List Spn) (f : Spn) : imR (l.map spA) ++ [(spA f).map .im] = imR ((l ++ [f]).map spA) := by simp [imR, imL]
theorem exc_row (l : List Exc) (f : Exc) : imR (l.map exA) ++ [(exA f).map .im] = imR ((l ++ [f]).map exA) := by simp [imR, imL]
attribute [local irreducible] W AX Run RunD AStep AOp AOpX AStB AStH AStG Fits PCall GCall PostG Post Stop
theorem frags_c (s : Sto) (sz : Nat) (hsz : sz < 256) (fin : List Spn) (xs : List Exc) (hfl : fin.length ≤ 24) (hxl : xs.length ≤ 6) (c40 : PCall Tryz.prog 40 [stoT s] (spsT fin)) (c63 : PCall Tryz.prog 63 [stoT s] (.c (.im (.sl 112 (xs.map exA))))) :
    PCall Tryz.prog 33 [stoT s, ft (.int .u8 (sz : Nat))] (.c (.im (.sl 70 ((frsN (1 + sz % 4) fin xs 4).map frgR)))) := by
  simp only [stoT, stoA, List.map] at c40 c63 ⊢
  have hfrl := fun k => frsN_len (1 + sz % 4) fin xs k
  have hst := fun k => frsN_s (1 + sz % 4) fin xs k
  have r4 : IntKind.i64.wrap (Int.tmod ((sz : Nat) : Int) 4) = ((sz % 4 : Nat) : Int) := by rw [tm4, w64n _ (by omega)]
  refine PCall.intro (nt := 129) (rs := [.tmp 4]) Tryz.func33 rfl ⟨by kernel_rfl, by kernel_rfl, by kernel_rfl⟩ (by simp) ?_
  rintro ⟨P, w0, ok0, may, np, pblk⟩ rfl rfl
  repeat' (first | refine W.seq fun K hK => ?_ | refine W.block ?_ | ((first | refine wR ?_ | refine wD ?_ | refine W.skip ?_ | refine W.exit ?_ | refine W.ret (Post.ret ?_) | refine aP ?_ | refine aF ?_); simp only [go_sem, reduceCtorEq]) | refine wT ?_ | refine wF ?_ | refine wC (fun h => ?_) (fun h => ?_) | refine iK ?_ | refine aI2 ?_ | (refine hK _ ?_; clear hK K) | clear hK K)
  clear c40 c63
  refine W.loopF (T := fun k : Nat => { t := [(1, ft (.int .u8 (sz : Nat))), (5, .c (.ref 0)), (6, spsT fin), (7, .c (.im (.sl 112 (xs.map exA)))), (8, ft (.int .i64 ((k + 1 : Nat) : Int)))], h := [(0, .row 70 (imR ((frsN (1 + sz % 4) fin xs k).map frgR)))], nx := 1, ex := [], nt := 129 })
    (Inv := fun k => k ≤ 4) (μ := fun k => 4 - k) (x0 := 0) ?_ (by decide) ?_
  · refine Fits.adopt 5 900 70 rfl rfl rfl tE70 rfl ?_
    refine Fits.fit [(900, 0)] [1, 5, 6, 7, 8] 1 rfl rfl ?_
    simp only [go_sem]
    exact Fits.rfl
  rintro k hk KL hKL
  by_cases hlt : k < 4
  rotate_left
  · obtain rfl : k = 4 := by omega
    have e1 : decide (((4 + 1 : Nat) : Int) ≤ 4) = false := by decide
    clear hKL hfrl hst
    repeat' (first | refine W.seq fun K hK => ?_ | refine W.block ?_ | ((first | refine wR ?_ | refine wD ?_ | refine W.skip ?_ | refine W.exit ?_ | refine W.ret (Post.ret ?_) | refine aP ?_ | refine aF ?_); simp only [go_sem, reduceCtorEq, e1]) | refine wT ?_ | refine wF ?_ | refine wC (fun h => ?_) (fun h => ?_) | refine iK ?_ | refine aI2 ?_ | (refine hK _ ?_; clear hK K) | clear hK K)
  have e1 : decide (((k + 1 : Nat) : Int) ≤ 4) = true := by simp; omega
  have hKL2 := fun (s' : St) h => hKL.to (s' := s') (k + 1) (by omega) (by omega) h
  rw [hst] at hKL2
  have hwk : IntKind.i64.wrap (((k + 1 : Nat) : Int) + 1) = ((k + 1 + 1 : Nat) : Int) := by rw [w64 (by omega) (by omega)]; omega
  have hol := hfrl k
  have hol2 : (frsN (1 + sz % 4) fin xs k).length ≤ 196 := by
    have : k * (2 * fin.length + 1) ≤ 4 * (2 * 24 + 1) := Nat.mul_le_mul (by omega) (by omega)
    omega
  clear hKL hfrl hst hol
  unfold agF at hKL2
  generalize frsN (1 + sz % 4) fin xs k = out0 at *
  obtain ⟨c, hc⟩ : ∃ c : Int, c = ((k + 1 : Nat) : Int) := ⟨_, rfl⟩
  rw [← hc] at hKL2 e1 hwk ⊢
  repeat' (first | refine W.seq fun K hK => ?_ | refine W.block ?_ | ((first | refine wR ?_ | refine wD ?_ | refine W.skip ?_ | refine W.exit ?_ | refine W.ret (Post.ret ?_) | refine aP ?_ | refine aF ?_); simp only [go_sem, reduceCtorEq, e1]) | refine wT ?_ | refine wF ?_ | refine wC (fun h => ?_) (fun h => ?_) | refine iK ?_ | refine aI2 ?_ | (refine hK _ ?_; clear hK K) | clear hK K)
  -- what the agent sees
  refine W.loopF (T := fun i : Nat => { t := [(1, ft (.int .u8 (sz : Nat))), (5, .c (.ref 0)), (6, spsT fin), (7, .c (.im (.sl 112 (xs.map exA)))), (8, ft (.int .i64 c)), (9, .c (.ref 1)), (10, ft (.int .i64 (i : Nat)))], h := [(0, .row 70 (imR (out0.map frgR))), (1, .row 88 (imR ((mineF c (fin.take i)).map spA)))], nx := 2, ex := [], nt := 129 })
    (Inv := fun i => i ≤ fin.length) (μ := fun i => fin.length - i) (x0 := 0) ?_ (Nat.zero_le _) ?_
  · refine Fits.adopt 9 901 88 rfl rfl rfl tE88 rfl ?_
    refine Fits.fit [(0, 0), (901, 1)] [1, 5, 6, 7, 8, 9, 10] 2 rfl rfl ?_
    simp only [go_sem]
    exact Fits.rfl
  rintro i hi KI hKI
  by_cases hlt1 : i < fin.length
  · obtain ⟨x, hx, hm, _⟩ := drop_at hlt1
    have f1 : decide ((i : Int) < fin.length) = true := by simp; omega
    have f2 : decide (i < fin.length) = true := by simp; omega
    have hw := w64s i (by omega)
    have hms := mineF_step (c := c) hx
    have hml := mineF_len c (fin.take i)
    have hml2 : (mineF c (fin.take i)).length ≤ 48 := by rw [List.length_take] at hml; omega
    have hKI2 := fun (s' : St) h => hKI.to (s' := s') (i + 1) (by omega) (by omega) h
    rw [hms] at hKI2
    clear hKI hms hml hKL2
    generalize mineF c (fin.take i) = mi at *
    cases q1 : (x.clk != c) with
    | true =>
      have : mineE c x = [] := by unfold mineE; rw [if_neg (by simpa using q1)]
      rw [this, List.append_nil] at hKI2
      repeat' (first | refine W.seq fun K hK => ?_ | refine W.block ?_ | ((first | refine wR ?_ | refine wD ?_ | refine W.skip ?_ | refine W.exit ?_ | refine W.ret (Post.ret ?_) | refine aP ?_ | refine aF ?_); simp only [go_sem, reduceCtorEq, List.getElem?_map, hx, spA, f1, f2, q1, hw, List.length_map]) | refine wT ?_ | refine wF ?_ | refine wC (fun h => ?_) (fun h => ?_) | refine iK ?_ | refine aI2 ?_ | (refine hK _ ?_; clear hK K) | clear hK K)
      refine hKI2 _ (Fits.fit [(0, 0), (1, 1)] [1, 5, 6, 7, 8, 9, 10] 2 rfl rfl ?_)
      simp only [go_sem]
      exact Fits.rfl
    | false =>
      have q1' : x.clk = c := by simpa using q1
      have b1 : (mi.length + 1) * 168 ≤ 140737488355328 := by omega
      cases q2 : decide (x.rev > 0) with
      | false =>
        have : mineE c x = [x] := by unfold mineE; rw [if_pos q1', if_neg (of_decide_eq_false q2)]
        rw [this] at hKI2
        repeat' (first | refine W.seq fun K hK => ?_ | refine W.block ?_ | ((first | refine wR ?_ | refine wD ?_ | refine W.skip ?_ | refine W.exit ?_ | refine W.ret (Post.ret ?_) | refine aP ?_ | refine aF ?_); simp only [go_sem, reduceCtorEq, List.getElem?_map, hx, spA, f1, f2, q1, q2, hw, b1, List.length_map, imR_len]) | refine wT ?_ | refine wF ?_ | refine wC (fun h => ?_) (fun h => ?_) | refine iK ?_ | refine aI2 ?_ | (refine hK _ ?_; clear hK K) | clear hK K)
        refine hKI2 _ (Fits.fit [(0, 0), (25, 1)] [1, 5, 6, 7, 8, 9, 10] 2 rfl rfl ?_)
        have hr := spn_row mi x
        simp only [spA, List.map] at hr
        simp only [go_sem, hr]
        exact Fits.rfl
      | true =>
        have : mineE c x = [erl x, x] := by unfold mineE; rw [if_pos q1', if_pos (of_decide_eq_true q2)]
        rw [this] at hKI2
        have hr1 := spn_row mi (erl x)
        have b2 : (mi.length + 1 + 1) * 168 ≤ 140737488355328 := Nat.le_trans (Nat.mul_le_mul_right 168 (show mi.length + 1 + 1 ≤ 50 by omega)) (by decide)
        repeat' (first | refine W.seq fun K hK => ?_ | refine W.block ?_ | ((first | refine wR ?_ | refine wD ?_ | refine W.skip ?_ | refine W.exit ?_ | refine W.ret (Post.ret ?_) | refine aP ?_ | refine aF ?_); simp only [go_sem, reduceCtorEq, List.getElem?_map, hx, spA, f1, f2, q1, q2, hw, b1, b2, List.length_map, imR_len]) | refine wT ?_ | refine wF ?_ | refine wC (fun h => ?_) (fun h => ?_) | refine iK ?_ | refine aI2 ?_ | (refine hK _ ?_; clear hK K) | clear hK K)
        refine hKI2 _ (Fits.fit [(0, 0), (44, 1)] [1, 5, 6, 7, 8, 9, 10] 2 rfl rfl ?_)
        have hrow : (imR (mi.map spA) ++ [(spA (erl x)).map .im]) ++ [(spA x).map .im] = imR ((mi ++ [erl x, x]).map spA) := by simp [imR, imL]
        simp only [spA, erl, List.map] at hrow
        simp only [go_sem, hrow, erl]
        exact Fits.rfl
  · obtain rfl : i = fin.length := by omega
    have f1 : decide ((fin.length : Int) < fin.length) = false := by simp
    have hml := mineF_len c fin
    have hml2 : (mineF c fin).length ≤ 48 := by omega
    rw [List.take_length]
    clear hKI hml
    generalize mineF c fin = mi at *
    repeat' (first | refine W.stop (id := 16) ?_ | refine W.seq fun K hK => ?_ | refine W.block ?_ | ((first | refine wR ?_ | refine wD ?_ | refine W.skip ?_ | refine W.exit ?_ | refine W.ret (Post.ret ?_) | refine aP ?_ | refine aF ?_); simp only [go_sem, reduceCtorEq, f1, List.length_map]) | refine wT ?_ | refine wF ?_ | refine wC (fun h => ?_) (fun h => ?_) | refine iK ?_ | refine aI2 ?_ | (refine hK _ ?_; clear hK K) | clear hK K)
    refine Stop.out ?_
    refine W.fits (s' := { t := [(1, ft (.int .u8 (sz : Nat))), (5, .c (.ref 0)), (6, spsT fin), (7, .c (.im (.sl 112 (xs.map exA)))), (8, ft (.int .i64 c)), (9, spsT mi)], h := [(0, .row 70 (imR (out0.map frgR)))], nx := 1, ex := [], nt := 129 }) (Fits.freeze 1 rfl (unim_im _) (Fits.seeT 9 1 rfl (.inl rfl) rfl (Fits.fit [(0, 0)] [1, 5, 6, 7, 8, 9] 1 rfl rfl (by simp only [go_sem]; exact Fits.rfl)))) ?_
    repeat' (first | refine W.seq fun K hK => ?_ | refine W.block ?_ | ((first | refine wR ?_ | refine wD ?_ | refine W.skip ?_ | refine W.exit ?_ | refine W.ret (Post.ret ?_) | refine aP ?_ | refine aF ?_); simp only [go_sem, reduceCtorEq]) | refine wT ?_ | refine wF ?_ | refine wC (fun h => ?_) (fun h => ?_) | refine iK ?_ | refine aI2 ?_ | (refine hK _ ?_; clear hK K) | clear hK K)
    obtain ⟨n, hn⟩ : ∃ n, n = 1 + sz % 4 := ⟨_, rfl⟩
    have hn4 : 1 ≤ n ∧ n ≤ 4 := by omega
    rw [← hn] at hKL2
    refine W.loopF (T := fun x : Nat × Nat × Nat × List Frg => { t := [(1, ft (.int .u8 (sz : Nat))), (5, .c (.ref 0)), (6, spsT fin), (7, .c (.im (.sl 112 (xs.map exA)))), (8, ft (.int .i64 c)), (9, spsT mi), (12, ft (.int .i64 (x.2.2.1 : Nat))), (13, ft (.int .i64 (x.2.1 : Nat)))], h := [(0, .row 70 (imR (x.2.2.2.map frgR)))], nx := 1, ex := [], nt := 129 })
      (Inv := fun x => x.2.2.2 ++ chunks c n mi x.1 x.2.1 x.2.2.1 = out0 ++ chunks c n mi mi.length 0 0 ∧ mi.length ≤ x.2.1 + x.1 ∧ x.2.2.2.length = out0.length + x.2.2.1 ∧ x.2.1 ≤ 52 ∧ x.2.2.1 + x.1 = mi.length) (μ := fun x => x.1) (x0 := (mi.length, 0, 0, out0)) ?_ ⟨rfl, by simp, by simp, Nat.zero_le _, by simp⟩ ?_
    · refine Fits.fit [(0, 0)] [1, 5, 6, 7, 8, 9, 12, 13] 1 rfl rfl ?_
      simp only [go_sem]
      exact Fits.rfl
    rintro ⟨u, p, q, out⟩ ⟨hI1, hI2, hI3, hI4, hI5⟩ KM hKM
    dsimp only at hI1 hI2 hI3 hI4 hI5 ⊢
    by_cases hlt3 : p < mi.length
    · cases u with
      | zero => omega
      | succ u =>
        have g1 : decide ((p : Int) < mi.length) = true := by simp; omega
        rw [chunks, if_pos hlt3] at hI1
        have hwp : IntKind.i64.wrap ((p : Int) + 1) = ((p + 1 : Nat) : Int) := w64s p (by omega)
        have hwq : IntKind.i64.wrap ((q : Int) + 1) = ((q + 1 : Nat) : Int) := w64s q (by omega)
        have hwn : IntKind.i64.wrap (((p + 1 : Nat) : Int) + ((sz % 4 : Nat) : Int)) = ((p + n : Nat) : Int) := by rw [w64 (by omega) (by omega)]; omega
        have hmin : (if ((p + n : Nat) : Int) < ((mi.length : Nat) : Int) then ((p + n : Nat) : Int) else ((mi.length : Nat) : Int)) = ((min mi.length (p + n) : Nat) : Int) := by split <;> omega
        have hout : out.length + 1 ≤ 300 := by omega
        have b1 : (out.length + 1) * 64 ≤ 140737488355328 := Nat.le_trans (Nat.mul_le_mul_right 64 hout) (by decide)
        have g2 : decide (p ≤ min mi.length (p + n)) = true := by simp; omega
        have g3 : decide (min mi.length (p + n) ≤ mi.length) = true := by simp; omega
        repeat' (first | refine W.seq fun K hK => ?_ | refine W.block ?_ | ((first | refine wR ?_ | refine wD ?_ | refine W.skip ?_ | refine W.exit ?_ | refine W.ret (Post.ret ?_) | refine aP ?_ | refine aF ?_); simp only [go_sem, reduceCtorEq, g1, r4, hwp, hwq, hwn, hmin, b1, g2, g3, List.length_map, imR_len]) | refine wT ?_ | refine wF ?_ | refine wC (fun h => ?_) (fun h => ?_) | refine iK ?_ | refine aI2 ?_ | (refine hK _ ?_; clear hK K) | clear hK K)
        have hspl : 0 < ((((mi.take (min mi.length (p + n))).drop p)).map spA).length := by rw [List.length_map, List.length_drop, List.length_take]; omega
        have hf : (frgR ⟨c, (q : Nat), (mi.take (min mi.length (p + n))).drop p, []⟩).map Cell.im = [.im (.flat (.int .i64 c)), .im (.flat (.int .i64 (q : Nat))), .im (.sl 88 (List.drop p (List.take (min mi.length (p + n)) (mi.map spA)))), .im (.flat (.slice none 0 0))] := by
          unfold frgR
          rw [nlA_ne hspl, List.map_drop, List.map_take]
          rfl
        have hrow := frg_row out ⟨c, (q : Nat), (mi.take (min mi.length (p + n))).drop p, []⟩
        rw [hf] at hrow
        refine hKM.to (u, p + n, q + 1, out ++ [⟨c, (q : Nat), (mi.take (min mi.length (p + n))).drop p, []⟩]) ⟨by dsimp only; rw [List.append_assoc]; exact hI1, by dsimp only; omega, by dsimp only; rw [List.length_append, List.length_singleton]; omega, by dsimp only; omega, by dsimp only; omega⟩ (Nat.lt_succ_self u) ?_
        refine Fits.fit [(25, 0)] [1, 5, 6, 7, 8, 9, 12, 13] 1 rfl rfl ?_
        simp only [go_sem, hrow]
        exact Fits.rfl
    · have g1 : decide ((p : Int) < mi.length) = false := by simp; omega
      have hrest : chunks c n mi u p q = [] := by
        cases u with
        | zero => rfl
        | succ u => rw [chunks, if_neg hlt3]
      rw [hrest, List.append_nil] at hI1
      have hql : (chunks c n mi mi.length 0 0).length = q := by have := congrArg List.length hI1; rw [List.length_append] at this; omega
      rw [← List.append_assoc, ← hI1, hql] at hKL2
      clear hKM hI1 hI2 hrest hql
      repeat' (first | refine W.seq fun K hK => ?_ | refine W.block ?_ | ((first | refine wR ?_ | refine wD ?_ | refine W.skip ?_ | refine W.exit ?_ | refine W.ret (Post.ret ?_) | refine aP ?_ | refine aF ?_); simp only [go_sem, reduceCtorEq, g1, List.length_map]) | refine wT ?_ | refine wF ?_ | refine wC (fun h => ?_) (fun h => ?_) | refine iK ?_ | refine aI2 ?_ | (refine hK _ ?_; clear hK K) | clear hK K)
      have hxl2 := fun i => (List.length_filter_le (fun x : Exc => x.t == c) (xs.take i))
      refine W.loopF (T := fun i : Nat => { t := [(1, ft (.int .u8 (sz : Nat))), (5, .c (.ref 0)), (6, spsT fin), (7, .c (.im (.sl 112 (xs.map exA)))), (8, ft (.int .i64 c)), (15, .c (.ptr 1 0)), (16, ft (.int .i64 (i : Nat)))], h := [(0, .row 70 (imR (out.map frgR))), (1, .box 70 [.im (.flat (.int .i64 c)), .im (.flat (.int .i64 (q : Nat))), .im (.flat (.slice none 0 0)), .ref 2]), (2, .row 112 (imR ((exsF c (xs.take i)).map exA)))], nx := 3, ex := [], nt := 129 })
        (Inv := fun i => i ≤ xs.length) (μ := fun i => xs.length - i) (x0 := 0) ?_ (Nat.zero_le _) ?_
      · refine Fits.adoptB 8 70 _ 3 902 112 rfl rfl rfl rfl tE112 rfl ?_
        refine Fits.fit [(0, 0), (8, 1), (902, 2)] [1, 5, 6, 7, 8, 15, 16] 3 rfl rfl ?_
        simp only [go_sem]
        exact Fits.rfl
      rintro i hi KN hKN
      have hxi := hxl2 i
      clear hxl2
      by_cases hlt4 : i < xs.length
      · obtain ⟨x, hx, hm, _⟩ := drop_at hlt4
        have f1 : decide ((i : Int) < xs.length) = true := by simp; omega
        have f2 : decide (i < xs.length) = true := by simp; omega
        have hw := w64s i (by omega)
        have hKN2 := fun (s' : St) h => hKN.to (s' := s') (i + 1) (by omega) (by omega) h
        have hes : exsF c (xs.take (i + 1)) = exsF c (xs.take i) ++ (if x.t == c then [x] else []) := by
          unfold exsF
          rw [List.take_add_one, hx]
          simp [List.filter_append, List.filter_cons]
        rw [hes] at hKN2
        have hel : (exsF c (xs.take i)).length ≤ 6 := by
          unfold exsF
          rw [List.length_take] at hxi
          omega
        clear hKN hes hKL2 hxi
        generalize exsF c (xs.take i) = mi at *
        cases q1 : (x.t == c) with
        | false =>
          rw [q1, if_neg (by decide), List.append_nil] at hKN2
          repeat' (first | refine W.seq fun K hK => ?_ | refine W.block ?_ | ((first | refine wR ?_ | refine wD ?_ | refine W.skip ?_ | refine W.exit ?_ | refine W.ret (Post.ret ?_) | refine aP ?_ | refine aF ?_); simp only [go_sem, reduceCtorEq, List.getElem?_map, hx, exA, f1, f2, q1, hw, List.length_map]) | refine wT ?_ | refine wF ?_ | refine wC (fun h => ?_) (fun h => ?_) | refine iK ?_ | refine aI2 ?_ | (refine hK _ ?_; clear hK K) | clear hK K)
          refine hKN2 _ (Fits.fit [(0, 0), (1, 1), (2, 2)] [1, 5, 6, 7, 8, 15, 16] 3 rfl rfl ?_)
          simp only [go_sem]
          exact Fits.rfl
        | true =>
          rw [q1, if_pos rfl] at hKN2
          have b1 : (mi.length + 1) * 40 ≤ 140737488355328 := by omega
          repeat' (first | refine W.seq fun K hK => ?_ | refine W.block ?_ | ((first | refine wR ?_ | refine wD ?_ | refine W.skip ?_ | refine W.exit ?_ | refine W.ret (Post.ret ?_) | refine aP ?_ | refine aF ?_); simp only [go_sem, reduceCtorEq, List.getElem?_map, hx, exA, f1, f2, q1, hw, b1, List.length_map, imR_len]) | refine wT ?_ | refine wF ?_ | refine wC (fun h => ?_) (fun h => ?_) | refine iK ?_ | refine aI2 ?_ | (refine hK _ ?_; clear hK K) | clear hK K)
          refine hKN2 _ (Fits.fit [(0, 0), (1, 1), (21, 2)] [1, 5, 6, 7, 8, 15, 16] 3 rfl rfl ?_)
          have hr := exc_row mi x
          simp only [exA, List.map] at hr
          simp only [go_sem, hr]
          exact Fits.rfl
      · obtain rfl : i = xs.length := by omega
        have f1 : decide ((xs.length : Int) < xs.length) = false := by simp
        rw [List.take_length]
        rw [List.take_length] at hxi
        have hel : (exsF c xs).length ≤ 6 := by unfold exsF; omega
        clear hKN hxi
        have hout : out.length + 1 ≤ 400 := by omega
        have b1 : (out.length + 1) * 64 ≤ 140737488355328 := Nat.le_trans (Nat.mul_le_mul_right 64 hout) (by decide)
        repeat' (first | refine W.stop (id := 28) ?_ | refine W.seq fun K hK => ?_ | refine W.block ?_ | ((first | refine wR ?_ | refine wD ?_ | refine W.skip ?_ | refine W.exit ?_ | refine W.ret (Post.ret ?_) | refine aP ?_ | refine aF ?_); simp only [go_sem, reduceCtorEq, f1, List.length_map]) | refine wT ?_ | refine wF ?_ | refine wC (fun h => ?_) (fun h => ?_) | refine iK ?_ | refine aI2 ?_ | (refine hK _ ?_; clear hK K) | clear hK K)
        refine Stop.out ?_
        refine W.fits (s' := { t := [(1, ft (.int .u8 (sz : Nat))), (5, .c (.ref 0)), (6, spsT fin), (7, .c (.im (.sl 112 (xs.map exA)))), (8, ft (.int .i64 c)), (15, .c (.ptr 1 0))], h := [(0, .row 70 (imR (out.map frgR))), (1, .box 70 [.im (.flat (.int .i64 c)), .im (.flat (.int .i64 (q : Nat))), .im (.flat (.slice none 0 0)), .im (.sl 112 ((exsF c xs).map exA))])], nx := 2, ex := [], nt := 129 }) ?_ ?_
        · refine Fits.freeze 2 rfl (unim_im _) ?_
          refine Fits.seeO 1 2 rfl rfl ?_
          refine Fits.fit [(0, 0), (1, 1)] [1, 5, 6, 7, 8, 15] 2 rfl rfl ?_
          simp only [go_sem]
          exact Fits.rfl
        generalize exsF c xs = es at *
        cases es with
        | nil =>
          rw [lastF, if_pos rfl, List.append_nil] at hKL2
          repeat' (first | refine W.seq fun K hK => ?_ | refine W.block ?_ | ((first | refine wR ?_ | refine wD ?_ | refine W.skip ?_ | refine W.exit ?_ | refine W.ret (Post.ret ?_) | refine aP ?_ | refine aF ?_); simp only [go_sem, reduceCtorEq, List.length_map, hwk]) | refine wT ?_ | refine wF ?_ | refine wC (fun h => ?_) (fun h => ?_) | refine iK ?_ | refine aI2 ?_ | (refine hK _ ?_; clear hK K) | clear hK K)
          refine hKL2 _ (Fits.fit [(0, 0)] [1, 5, 6, 7, 8] 1 rfl rfl ?_)
          simp only [go_sem]
          exact Fits.rfl
        | cons x es =>
          rw [lastF, if_neg (by simp)] at hKL2
          have g5 : decide (((es.length + 1 : Nat) : Int) > 0) = true := by simp
          have hrow := frg_row out ⟨c, (q : Nat), [], x :: es⟩
          simp only [frgR, List.map_cons, List.map_nil, nlA] at hrow
          repeat' (first | refine W.seq fun K hK => ?_ | refine W.block ?_ | ((first | refine wR ?_ | refine wD ?_ | refine W.skip ?_ | refine W.exit ?_ | refine W.ret (Post.ret ?_) | refine aP ?_ | refine aF ?_); simp only [go_sem, reduceCtorEq, List.length_map, List.length_cons, g5, b1, imR_len, hwk]) | refine wT ?_ | refine wF ?_ | refine wC (fun h => ?_) (fun h => ?_) | refine iK ?_ | refine aI2 ?_ | (refine hK _ ?_; clear hK K) | clear hK K)
          refine hKL2 _ (Fits.fit [(9, 0)] [1, 5, 6, 7, 8] 1 rfl rfl ?_)
          simp only [go_sem, hrow]
          exact Fits.rfl
end Go.Proofs.YtigenjeealkdlaaGreat
namespace Go.Proofs.YtigenjeealkdlaaGreat
open Go.RowKit Go.Exe
/-! ### the fragments in another order -/
def swp (l : List Frg) (i k : Nat) : List Frg := match l[i]?, l[k]? with
  | some a, some b => (l.set i b).set k a
  | _, _ => l
theorem swp_len (l : List Frg) (i k : Nat) : (swp l i k).length = l.length := by
  unfold swp
  split <;> simp
theorem swp_mem (l : List Frg) (i k : Nat) (f : Frg) : f ∈ swp l i k ↔ f ∈ l := by
  unfold swp
  split
  · rename_i a b ha hb
    have hi := (List.getElem?_eq_some_iff.1 ha).1
    have hk := (List.getElem?_eq_some_iff.1 hb).1
    simp only [List.mem_iff_getElem?]
    constructor
    · rintro ⟨j, hj⟩
      rw [List.getElem?_set, List.getElem?_set] at hj
      split at hj
      · try rw [if_pos (by simpa using hk)] at hj
        exact ⟨i, by rw [ha]; exact hj⟩
      · split at hj
        · try rw [if_pos hi] at hj
          exact ⟨k, by rw [hb]; exact hj⟩
        · exact ⟨j, hj⟩
    · rintro ⟨j, hj⟩
      by_cases h1 : j = i
      · subst h1
        refine ⟨k, ?_⟩
        rw [List.getElem?_set, if_pos rfl, if_pos (by simpa using hk), ← ha]
        exact hj
      · by_cases h2 : j = k
        · subst h2
          refine ⟨i, ?_⟩
          rw [List.getElem?_set, if_neg h1, List.getElem?_set, if_pos rfl, if_pos hi, ← hb]
          exact hj
        · exact ⟨j, by rw [List.getElem?_set, if_neg (fun h => h2 h.symm), List.getElem?_set, if_neg (fun h => h1 h.symm)]; exact hj⟩
  · exact Iff.rfl
def swN (l : List Frg) (o : List Nat) : Nat → List Frg
  | 0 => l
  | i + 1 => swp (swN l o i) i (o.getD i 0 % (i + 1))
theorem swN_len (l : List Frg) (o : List Nat) : ∀ i, (swN l o i).length = l.length
  | 0 => rfl
  | i + 1 => by rw [swN, swp_len, swN_len l o i]
theorem swN_mem (l : List Frg) (o : List Nat) (f : Frg) : ∀ i, f ∈ swN l o i ↔ f ∈ l
  | 0 => Iff.rfl
  | i + 1 => by rw [swN, swp_mem, swN_mem l o f i]
def dpN (l : List Frg) (o : List Nat) : Nat → List Frg
  | 0 => []
  | i + 1 => dpN l o i ++ (if 200 ≤ o.getD i 0 then l[i]?.toList else [])
theorem dpN_len (l : List Frg) (o : List Nat) : ∀ i, (dpN l o i).length ≤ i
  | 0 => by simp [dpN]
  | i + 1 => by
    have h := dpN_len l o i
    rw [dpN, List.length_append]
    split
    · cases l[i]? <;> simp <;> omega
    · simp; omega
theorem dpN_mem {l : List Frg} {o : List Nat} {f : Frg} : ∀ {i}, f ∈ dpN l o i → f ∈ l
  | 0, h => by simp [dpN] at h
  | i + 1, h => by
    rw [dpN, List.mem_append] at h
    rcases h with h | h
    · exact dpN_mem h
    · split at h
      · exact List.mem_of_getElem? (by simpa using h)
      · simp at h
def shuf (l : List Frg) (o : List Nat) : List Frg := swN l o (min l.length o.length) ++ dpN l o (min l.length o.length)
theorem shuf_mem (l : List Frg) (o : List Nat) (f : Frg) : f ∈ shuf l o ↔ f ∈ l := by
  unfold shuf
  rw [List.mem_append, swN_mem]
  exact ⟨fun h => h.elim id dpN_mem, .inl⟩
theorem shuf_len (l : List Frg) (o : List Nat) : (shuf l o).length ≤ l.length + o.length := by
  unfold shuf
  rw [List.length_append, swN_len]
  have := dpN_len l o (min l.length o.length)
  omega
theorem imR_atF {l : List Frg} {i : Nat} {x : Frg} (h : l[i]? = some x) : (imR (l.map frgA))[i]? = some ((frgA x).map .im) := by simp [imR, imL, h]
theorem imR_setF {l : List Frg} {i : Nat} {x : Frg} : (imR (l.map frgA)).set i ((frgA x).map .im) = imR ((l.set i x).map frgA) := by simp [imR, imL, List.map_set]
theorem frg_rowA (l : List Frg) (f : Frg) : imR (l.map frgA) ++ [(frgA f).map .im] = imR ((l ++ [f]).map frgA) := by simp [imR, imL]
abbrev frgsT (l : List Frg) : TV := .c (.im (.sl 70 (l.map frgA)))
def byA (n : Nat) : List AV := [.flat (.int .u8 (n : Nat))]
attribute [local irreducible] W AX Run RunD AStep AOp AOpX AStB AStH AStG Fits PCall GCall PostG Post Stop
theorem shuf_c (l : List Frg) (o : List Nat) (ho : ∀ b ∈ o, b < 256) (hol : o.length ≤ 64) (hl : l.length ≤ 400) :
    PCall Tryz.prog 34 [frgsT l, .c (.im (.sl 5 (o.map byA)))] (frgsT (shuf l o)) := by
  refine PCall.intro (nt := 71) (rs := [.tmp 4]) Tryz.func34 rfl ⟨by kernel_rfl, by kernel_rfl, by kernel_rfl⟩ (by simp) ?_
  rintro ⟨P, w0, ok0, may, np, pblk⟩ rfl rfl
  repeat' (first | refine W.seq fun K hK => ?_ | refine W.block ?_ | ((first | refine wR ?_ | refine wD ?_ | refine W.skip ?_ | refine W.exit ?_ | refine W.ret (Post.ret ?_) | refine aP ?_ | refine aF ?_); simp only [go_sem, reduceCtorEq, List.length_map]) | refine wT ?_ | refine wF ?_ | refine wC (fun h => ?_) (fun h => ?_) | refine iK ?_ | refine aI2 ?_ | (refine hK _ ?_; clear hK K) | clear hK K)
  refine W.loopF (T := fun i : Nat => { t := [(0, frgsT l), (1, .c (.im (.sl 5 (o.map byA)))), (5, .c (.ref 0)), (6, ft (.int .i64 (i : Nat)))], h := [(0, .row 70 (imR ((swN l o i).map frgA)))], nx := 1, ex := [], nt := 71 })
    (Inv := fun i => i ≤ min l.length o.length) (μ := fun i => min l.length o.length - i) (x0 := 0) ?_ (Nat.zero_le _) ?_
  · refine Fits.fit [(3, 0)] [0, 1, 5, 6] 1 rfl rfl ?_
    simp only [go_sem]
    exact Fits.rfl
  rintro i hi KL hKL
  have hsl := swN_len l o i
  by_cases hlt : i < min l.length o.length
  · obtain ⟨b, hb, hbm, _⟩ := drop_at (show i < o.length by omega)
    obtain ⟨x, hx, _, _⟩ := drop_at (show i < (swN l o i).length by omega)
    have hkl : b % (i + 1) < i + 1 := Nat.mod_lt _ (by omega)
    obtain ⟨y, hy, _, _⟩ := drop_at (show b % (i + 1) < (swN l o i).length by omega)
    have hb2 := ho b hbm
    have hsw : swN l o (i + 1) = ((swN l o i).set i y).set (b % (i + 1)) x := by
      rw [swN]
      have : o.getD i 0 = b := by rw [List.getD_eq_getElem?_getD, hb]; rfl
      rw [this, swp, hx, hy]
    have e1 : decide ((i : Int) < l.length) = true := by simp; omega
    have e2 : decide ((i : Int) < o.length) = true := by simp; omega
    have e3 : decide (i < o.length) = true := by simp; omega
    have e4 : decide (i < l.length) = true := by simp; omega
    have e5 : decide (b % (i + 1) < l.length) = true := by simp; omega
    have hw := w64s i (by omega)
    have hwb := w64n b (by omega)
    have hrm : Int.tmod ((b : Nat) : Int) ((i + 1 : Nat) : Int) = ((b % (i + 1) : Nat) : Int) := rfl
    have hKL2 := fun (s' : St) h => hKL.to (s' := s') (i + 1) (by omega) (by omega) h
    rw [hsw] at hKL2
    clear hKL hsw
    generalize b % (i + 1) = k at *
    have hx3 := imR_atF hx
    have hy3 := imR_atF hy
    have hz3 : ((imR ((swN l o i).map frgA)).set i ((frgA y).map .im))[k]? = some ((frgA y).map .im) := by
      rw [imR_setF]
      refine imR_atF ?_
      rw [List.getElem?_set]
      split
      · rw [if_pos (by omega)]
      · exact hy
    have hset : ((imR ((swN l o i).map frgA)).set i ((frgA y).map .im)).set k ((frgA x).map .im) = imR ((((swN l o i).set i y).set k x).map frgA) := by rw [imR_setF, imR_setF]
    simp only [frgA, List.map] at hx3 hy3 hz3 hset
    generalize hrr : swN l o i = rr at *
    repeat' (first | refine W.seq fun K hK => ?_ | refine W.block ?_ | ((first | refine wR ?_ | refine wD ?_ | refine W.skip ?_ | refine W.exit ?_ | refine W.ret (Post.ret ?_) | refine aP ?_ | refine aF ?_); simp only [go_sem, reduceCtorEq, imR_len, List.length_map, List.getElem?_map, List.length_set, hb, byA, hsl, e1, e2, e3, e4, e5, hw, hwb, hrm, hx3, hy3, hz3]) | refine wT ?_ | refine wF ?_ | refine wC (fun h => ?_) (fun h => ?_) | refine iK ?_ | refine aI2 ?_ | (refine hK _ ?_; clear hK K) | clear hK K)
    refine hKL2 _ (Fits.fit [(0, 0)] [0, 1, 5, 6] 1 rfl rfl ?_)
    simp only [go_sem, List.drop, hset]
    exact Fits.rfl
  · obtain rfl : i = min l.length o.length := by omega
    clear hKL
    have hK2 : ∀ s1, Fits ⟨Tryz.prog, w0, ok0, may, 0, pblk⟩ s1 { t := [(0, frgsT l), (1, .c (.im (.sl 5 (o.map byA)))), (5, .c (.ref 0))], h := [(0, .row 70 (imR ((swN l o (min l.length o.length)).map frgA)))], nx := 1, ex := [], nt := 71 } → K s1 := by
      intro s1 hf
      refine hK _ (W.fits hf ?_)
      have hrl := swN_len l o (min l.length o.length)
      clear hK hf hsl
      have hshuf : swN l o (min l.length o.length) ++ dpN l o (min l.length o.length) = shuf l o := rfl
      generalize hrr : swN l o (min l.length o.length) = rr at *
      repeat' (first | refine W.seq fun K hK => ?_ | refine W.block ?_ | ((first | refine wR ?_ | refine wD ?_ | refine W.skip ?_ | refine W.exit ?_ | refine W.ret (Post.ret ?_) | refine aP ?_ | refine aF ?_); simp only [go_sem, reduceCtorEq]) | refine wT ?_ | refine wF ?_ | refine wC (fun h => ?_) (fun h => ?_) | refine iK ?_ | refine aI2 ?_ | (refine hK _ ?_; clear hK K) | clear hK K)
      refine W.loopF (T := fun i : Nat => { t := [(0, frgsT l), (1, .c (.im (.sl 5 (o.map byA)))), (5, .c (.ref 0)), (8, ft (.int .i64 (i : Nat)))], h := [(0, .row 70 (imR ((rr ++ dpN l o i).map frgA)))], nx := 1, ex := [], nt := 71 })
        (Inv := fun i => i ≤ min l.length o.length) (μ := fun i => min l.length o.length - i) (x0 := 0) ?_ (Nat.zero_le _) ?_
      · refine Fits.fit [(0, 0)] [0, 1, 5, 8] 1 rfl rfl ?_
        simp only [go_sem, dpN, List.append_nil]
        exact Fits.rfl
      rintro i hi KM hKM
      by_cases hlt2 : i < min l.length o.length
      · obtain ⟨b, hb, hbm, _⟩ := drop_at (show i < o.length by omega)
        obtain ⟨x, hx, _, _⟩ := drop_at (show i < l.length by omega)
        have hb2 := ho b hbm
        have e1 : decide ((i : Int) < l.length) = true := by simp; omega
        have e2 : decide ((i : Int) < o.length) = true := by simp; omega
        have e3 : decide (i < o.length) = true := by simp; omega
        have e4 : decide (i < l.length) = true := by simp; omega
        have hw := w64s i (by omega)
        have hdp : dpN l o (i + 1) = dpN l o i ++ (if 200 ≤ b then [x] else []) := by
          rw [dpN]
          have : o.getD i 0 = b := by rw [List.getD_eq_getElem?_getD, hb]; rfl
          rw [this, hx]
          rfl
        have hdl := dpN_len l o i
        have hdl2 : rr.length + (dpN l o i).length + 1 ≤ 500 := by omega
        have b1 : (rr.length + (dpN l o i).length + 1) * 64 ≤ 140737488355328 := Nat.le_trans (Nat.mul_le_mul_right 64 hdl2) (by decide)
        have hKM2 := fun (s' : St) h => hKM.to (s' := s') (i + 1) (by omega) (by omega) h
        rw [hdp] at hKM2
        clear hKM hdp hdl hdl2 hshuf hrr
        generalize dpN l o i = dd at *
        cases q1 : decide ((b : Int) ≥ 200) with
        | false =>
          have q2 := of_decide_eq_false q1
          rw [if_neg (by omega), List.append_nil] at hKM2
          repeat' (first | refine W.seq fun K hK => ?_ | refine W.block ?_ | ((first | refine wR ?_ | refine wD ?_ | refine W.skip ?_ | refine W.exit ?_ | refine W.ret (Post.ret ?_) | refine aP ?_ | refine aF ?_); simp only [go_sem, reduceCtorEq, List.length_map, List.getElem?_map, hb, byA, e1, e2, e3, e4, q1, hw]) | refine wT ?_ | refine wF ?_ | refine wC (fun h => ?_) (fun h => ?_) | refine iK ?_ | refine aI2 ?_ | (refine hK _ ?_; clear hK K) | clear hK K)
          refine hKM2 _ (Fits.fit [(0, 0)] [0, 1, 5, 8] 1 rfl rfl ?_)
          simp only [go_sem]
          exact Fits.rfl
        | true =>
          have q2 := of_decide_eq_true q1
          rw [if_pos (by omega), ← List.append_assoc] at hKM2
          have hrow := frg_rowA (rr ++ dd) x
          simp only [frgA, List.map] at hrow
          repeat' (first | refine W.seq fun K hK => ?_ | refine W.block ?_ | ((first | refine wR ?_ | refine wD ?_ | refine W.skip ?_ | refine W.exit ?_ | refine W.ret (Post.ret ?_) | refine aP ?_ | refine aF ?_); simp only [go_sem, reduceCtorEq, List.length_map, List.length_append, imR_len, List.getElem?_map, hb, hx, byA, frgA, e1, e2, e3, e4, q1, hw, b1]) | refine wT ?_ | refine wF ?_ | refine wC (fun h => ?_) (fun h => ?_) | refine iK ?_ | refine aI2 ?_ | (refine hK _ ?_; clear hK K) | clear hK K)
          refine hKM2 _ (Fits.fit [(22, 0)] [0, 1, 5, 8] 1 rfl rfl ?_)
          simp only [go_sem, hrow]
          exact Fits.rfl
      · obtain rfl : i = min l.length o.length := by omega
        clear hKM
        rw [hshuf]
        cases e1 : decide (((min l.length o.length : Nat) : Int) < l.length) with
        | false => 
          repeat' (first | refine W.seq fun K hK => ?_ | refine W.block ?_ | ((first | refine wR ?_ | refine wD ?_ | refine W.skip ?_ | refine W.exit ?_ | refine W.ret (Post.ret ?_) | refine aP ?_ | refine aF ?_); simp only [go_sem, reduceCtorEq, e1, List.length_map]) | refine wT ?_ | refine wF ?_ | refine wC (fun h => ?_) (fun h => ?_) | refine iK ?_ | refine aI2 ?_ | (refine hK _ ?_; clear hK K) | clear hK K)
        | true =>
          have e2 : decide (((min l.length o.length : Nat) : Int) < o.length) = false := by
            have := of_decide_eq_true e1
            simp; omega
          repeat' (first | refine W.seq fun K hK => ?_ | refine W.block ?_ | ((first | refine wR ?_ | refine wD ?_ | refine W.skip ?_ | refine W.exit ?_ | refine W.ret (Post.ret ?_) | refine aP ?_ | refine aF ?_); simp only [go_sem, reduceCtorEq, e1, e2, List.length_map]) | refine wT ?_ | refine wF ?_ | refine wC (fun h => ?_) (fun h => ?_) | refine iK ?_ | refine aI2 ?_ | (refine hK _ ?_; clear hK K) | clear hK K)
    cases e1 : decide (((min l.length o.length : Nat) : Int) < l.length) with
    | false => 
      repeat' (first | refine W.seq fun K hK => ?_ | refine W.block ?_ | ((first | refine wR ?_ | refine wD ?_ | refine W.skip ?_ | refine W.exit ?_ | refine W.ret (Post.ret ?_) | refine aP ?_ | refine aF ?_); simp only [go_sem, reduceCtorEq, e1, hsl, imR_len, List.length_map]) | refine wT ?_ | refine wF ?_ | refine wC (fun h => ?_) (fun h => ?_) | refine iK ?_ | refine aI2 ?_ | (refine hK _ ?_; clear hK K) | clear hK K)
      refine hK2 _ (Fits.fit [(0, 0)] [0, 1, 5] 1 rfl rfl ?_)
      simp only [go_sem]
      exact Fits.rfl
    | true =>
      have e2 : decide (((min l.length o.length : Nat) : Int) < o.length) = false := by
        have := of_decide_eq_true e1
        simp; omega
      repeat' (first | refine W.seq fun K hK => ?_ | refine W.block ?_ | ((first | refine wR ?_ | refine wD ?_ | refine W.skip ?_ | refine W.exit ?_ | refine W.ret (Post.ret ?_) | refine aP ?_ | refine aF ?_); simp only [go_sem, reduceCtorEq, e1, e2, hsl, imR_len, List.length_map]) | refine wT ?_ | refine wF ?_ | refine wC (fun h => ?_) (fun h => ?_) | refine iK ?_ | refine aI2 ?_ | (refine hK _ ?_; clear hK K) | clear hK K)
      refine hK2 _ (Fits.fit [(0, 0)] [0, 1, 5] 1 rfl rfl ?_)
      simp only [go_sem]
      exact Fits.rfl
end Go.Proofs.YtigenjeealkdlaaGreat
namespace Go.Proofs.YtigenjeealkdlaaGreat
open Go.RowKit Go.Exe
/-! ### what the fragments say, whatever their order -/
theorem win_top {l : List Spn} {t : Int} (ht : ∀ s ∈ l, s.tr = t) {s : Spn} (hs : s ∈ l) (htop : ∀ y ∈ l, y.id = s.id → y = s ∨ y.rev < s.rev) : s ∈ winS l := by
  have hS := setS_lt l
  have hm := mem_setS.2 hs
  have hsub : ∀ y ∈ setS l, y ∈ l := fun y hy => mem_setS.1 hy
  unfold winS
  generalize setS l = S at *
  obtain ⟨i, hi, hx⟩ := List.mem_iff_getElem.1 hm
  rw [chosenN_is, List.mem_map]
  refine ⟨i, List.mem_filter.2 ⟨List.mem_range.2 hi, ?_⟩, ?_⟩
  · unfold isLast
    rw [List.getElem?_eq_getElem hi]
    by_cases h2 : i + 1 < S.length
    · rw [List.getElem?_eq_getElem h2]
      have hlt := List.pairwise_iff_getElem.1 hS i (i + 1) hi h2 (by omega)
      have hy := hsub _ (List.getElem_mem h2)
      have h3 : S[i + 1].id ≠ S[i].id := fun e => by
        rcases htop _ hy (by rw [e, hx]) with h | h
        · rw [h, hx] at hlt
          have := lwSp.refl s
          omega
        · rcases cmp_id (by rw [ht _ hy, ht _ (hsub _ (List.getElem_mem hi))]) hlt with h4 | ⟨_, h4⟩
          · omega
          · rw [hx] at h4
            omega
      have h4 : (S[i + 1].id == S[i].id) = false := by simpa using h3
      simp [h4]
    · rw [List.getElem?_eq_none (by omega)]
  · rw [List.getD_eq_getElem?_getD, List.getElem?_eq_getElem hi]
    exact hx
theorem idl_uni {l m : List Spn} {t : Int} (tl : ∀ s ∈ l, s.tr = t) (tm : ∀ s ∈ m, s.tr = t) (hl : l.Pairwise fun a b => a.id < b.id) (hm : m.Pairwise fun a b => a.id < b.id) (h : ∀ s, s ∈ l ↔ s ∈ m) : l = m := lt_uni (srt_id tl hl) (srt_id tm hm) h
theorem id_one {l : List Spn} (h : l.Pairwise fun a b => a.id < b.id) {a b : Spn} (ha : a ∈ l) (hb : b ∈ l) (e : a.id = b.id) : a = b := by
  obtain ⟨i, hi, rfl⟩ := List.mem_iff_getElem.1 ha
  obtain ⟨j, hj, rfl⟩ := List.mem_iff_getElem.1 hb
  rcases Nat.lt_trichotomy i j with h1 | h1 | h1
  · have := List.pairwise_iff_getElem.1 h i j hi hj h1; omega
  · subst h1; rfl
  · have := List.pairwise_iff_getElem.1 h j i hj hi h1; omega
theorem final_law {L F : List Spn} (hmem : ∀ y, y ∈ L ↔ ∃ x ∈ F, y = x ∨ (0 < x.rev ∧ y = erl x)) (hF : ∀ t, (trF F t).Pairwise fun a b => a.id < b.id) (t : Int) : ofS L t = trF F t := by
  have key : ∀ x ∈ trF F t, x ∈ ofS L t := fun x hx => by
    obtain ⟨h1, h2⟩ := mem_trF.1 hx
    refine win_top (trF_tr L t) (mem_trF.2 ⟨(hmem x).2 ⟨x, h1, .inl rfl⟩, h2⟩) fun y hy e => ?_
    obtain ⟨h3, h4⟩ := mem_trF.1 hy
    obtain ⟨z, hz, h | ⟨h5, rfl⟩⟩ := (hmem y).1 h3
    · subst h
      exact .inl (id_one (hF t) (mem_trF.2 ⟨hz, h4⟩) hx e)
    · have : z = x := id_one (hF t) (mem_trF.2 ⟨hz, h4⟩) hx e
      subst this
      exact .inr h5
  refine idl_uni (fun s hs => (ofS_mem hs).2) (trF_tr F t) (ofS_srt L t) (hF t) fun y => ⟨fun hy => ?_, key y⟩
  obtain ⟨h1, h2⟩ := ofS_mem hy
  obtain ⟨z, hz, h | ⟨h5, h6⟩⟩ := (hmem y).1 h1
  · subst h
    exact mem_trF.2 ⟨hz, h2⟩
  · have h3 : z ∈ trF F t := mem_trF.2 ⟨hz, by rw [h6] at h2; exact h2⟩
    have : y = z := id_one (ofS_srt L t) hy (key z h3) (by rw [h6]; rfl)
    subst this
    have : y.rev = 0 := by rw [h6]; rfl
    omega
def sentL (l : List Frg) : List Spn := l.flatMap fun f => f.sp
theorem chunks_flat (c : Int) {n : Nat} (m : List Spn) (hn : 1 ≤ n) : ∀ k p q, m.length ≤ p + k → sentL (chunks c n m k p q) = m.drop p
  | 0, p, q, h => by rw [List.drop_eq_nil_of_le (by omega)]; rfl
  | k + 1, p, q, h => by
    rw [chunks]
    split
    · have ih := chunks_flat c m hn k (p + n) (q + 1) (by omega)
      have h1 : m.take (min m.length (p + n)) = m.take (p + n) := by
        rcases Nat.le_total m.length (p + n) with h2 | h2
        · rw [Nat.min_eq_left h2, List.take_length, List.take_of_length_le h2]
        · rw [Nat.min_eq_right h2]
      show (m.take (min m.length (p + n))).drop p ++ sentL (chunks c n m k (p + n) (q + 1)) = m.drop p
      rw [ih, h1, List.drop_take, show p + n - p = n by omega, ← List.drop_drop, List.take_append_drop]
    · rw [List.drop_eq_nil_of_le (by omega)]; rfl
theorem ag_flat {n : Nat} (hn : 1 ≤ n) (fin : List Spn) (xs : List Exc) (c : Int) : sentL (agF n fin xs c) = mineF c fin := by
  unfold agF
  have h1 := chunks_flat c (mineF c fin) hn (mineF c fin).length 0 0 (by omega)
  rw [List.drop_zero] at h1
  have h2 : ∀ q, sentL (lastF c q (exsF c xs)) = [] := fun q => by unfold lastF; split <;> rfl
  unfold sentL at *
  rw [List.flatMap_append, h1, h2, List.append_nil]
theorem sent_mem {n : Nat} (hn : 1 ≤ n) {fin : List Spn} {xs : List Exc} (hclk : ∀ x ∈ fin, 1 ≤ x.clk ∧ x.clk ≤ 4) (y : Spn) : y ∈ sentL (frsN n fin xs 4) ↔ ∃ x ∈ fin, y = x ∨ (0 < x.rev ∧ y = erl x) := by
  have h1 : sentL (frsN n fin xs 4) = (List.range 4).flatMap fun i => mineF ((i + 1 : Nat) : Int) fin := by
    show (((List.range 4).flatMap fun i => agF n fin xs ((i + 1 : Nat) : Int)).flatMap fun f => f.sp) = _
    rw [List.flatMap_assoc]
    congr 1
    funext i
    exact ag_flat hn fin xs _
  have h2 : ∀ (c : Int) (x : Spn), y ∈ mineE c x ↔ x.clk = c ∧ (y = x ∨ (0 < x.rev ∧ y = erl x)) := fun c x => by
    unfold mineE
    split
    · rename_i e
      split
      · rename_i e2
        simp only [List.mem_cons, List.not_mem_nil, or_false]
        constructor
        · rintro (h | h)
          · exact ⟨e, .inr ⟨e2, h⟩⟩
          · exact ⟨e, .inl h⟩
        · rintro ⟨_, h | ⟨_, h⟩⟩
          · exact .inr h
          · exact .inl h
      · rename_i e2
        simp only [List.mem_cons, List.not_mem_nil, or_false]
        constructor
        · exact fun h => ⟨e, .inl h⟩
        · rintro ⟨_, h | ⟨h, _⟩⟩
          · exact h
          · exact absurd h e2
    · rename_i e
      constructor
      · intro h; cases h
      · exact fun h => absurd h.1 e
  rw [h1, List.mem_flatMap]
  constructor
  · rintro ⟨i, _, hi⟩
    obtain ⟨x, hx, h⟩ := List.mem_flatMap.1 hi
    exact ⟨x, hx, ((h2 _ x).1 h).2⟩
  · rintro ⟨x, hx, h⟩
    obtain ⟨h3, h4⟩ := hclk x hx
    refine ⟨(x.clk - 1).toNat, List.mem_range.2 (by omega), List.mem_flatMap.2 ⟨x, hx, (h2 _ x).2 ⟨by omega, h⟩⟩⟩
/-! ### the order of traces -/
theorem posT_spec (id : Nat) (l : List Trc) : ∀ n, n ≤ l.length → (∀ j y, posT id l n ≤ j → j < n → l[j]? = some y → id < y.1) ∧ (posT id l n = 0 ∨ ∃ y, l[posT id l n - 1]? = some y ∧ y.1 ≤ id)
  | 0, _ => ⟨fun j y _ h => absurd h (Nat.not_lt_zero _), .inl rfl⟩
  | n + 1, hn => by
    obtain ⟨h1, h2⟩ := posT_spec id l n (by omega)
    have hx : l[n]? = some l[n] := List.getElem?_eq_getElem (by omega)
    rw [posT, hx]
    dsimp only
    split
    · rename_i h
      refine ⟨fun j y hj hjn hy => ?_, h2⟩
      by_cases e : j = n
      · subst e
        rw [hx] at hy
        cases hy
        exact h
      · exact h1 j y hj (by omega) hy
    · rename_i h
      exact ⟨fun j y hj hjn => by omega, .inr ⟨_, hx, by omega⟩⟩
theorem insT_srt {x : Trc} {l : List Trc} (h : l.Pairwise fun a b => a.1 < b.1) (hne : ∀ y ∈ l, y.1 ≠ x.1) : (insT x l).Pairwise fun a b => a.1 < b.1 := by
  obtain ⟨h1, h2⟩ := posT_spec x.1 l l.length (Nat.le_refl _)
  have hp := posT_le x.1 l l.length
  unfold insT
  generalize posT x.1 l l.length = p at *
  have hlo : ∀ y ∈ l.take p, y.1 < x.1 := fun y hy => by
    obtain ⟨j, hj, rfl⟩ := List.mem_iff_getElem.1 hy
    rw [List.length_take] at hj
    rw [List.getElem_take]
    have hn := hne _ (List.getElem_mem (show j < l.length by omega))
    rcases h2 with h2 | ⟨z, hz, hz2⟩
    · omega
    · obtain ⟨hk, rfl⟩ := List.getElem?_eq_some_iff.1 hz
      by_cases e : j = p - 1
      · subst e; omega
      · have := List.pairwise_iff_getElem.1 h j (p - 1) (by omega) hk (by omega)
        omega
  have hhi : ∀ y ∈ l.drop p, x.1 < y.1 := fun y hy => by
    obtain ⟨j, hj, rfl⟩ := List.mem_iff_getElem.1 hy
    rw [List.length_drop] at hj
    rw [List.getElem_drop]
    exact h1 (p + j) _ (by omega) (by omega) (List.getElem?_eq_getElem (by omega))
  rw [List.append_assoc, List.pairwise_append]
  refine ⟨h.sublist (List.take_sublist _ _), List.pairwise_append.2 ⟨List.pairwise_singleton _ _, h.sublist (List.drop_sublist _ _), fun a ha b hb => ?_⟩, fun a ha b hb => ?_⟩
  · rw [List.mem_singleton.1 ha]; exact hhi b hb
  · rcases List.mem_append.1 hb with hb | hb
    · rw [List.mem_singleton.1 hb]; exact hlo a ha
    · have h3 := hlo a ha
      have h4 := hhi b hb
      omega
theorem trsN_srt {s : Sto} (hs : s.ok) : ∀ n, n ≤ s.ts.length → (trsN s n).Pairwise fun a b => a.1 < b.1
  | 0, _ => List.Pairwise.nil
  | n + 1, hn => by
    have ih := trsN_srt hs n (by omega)
    have h3 := hs.2.2.2.2.2.2
    unfold trsN
    split
    · rename_i t ht
      split
      · exact ih
      · refine insT_srt ih fun y hy => ?_
        obtain ⟨k, t', h1, h2, _, rfl⟩ := trsN_mem hy
        show tidN s k ≠ tidN s n
        simp only [tidN, ht, h2]
        omega
    · exact ih
/-! ### the final records -/
theorem finX_tr (s : Sto) (x : Spn) : (finX s x).tr = x.tr := by unfold finX rv1; split <;> rfl
theorem finX_id (s : Sto) (x : Spn) : (finX s x).id = x.id := by unfold finX rv1; split <;> rfl
theorem finX_clk (s : Sto) (x : Spn) : (finX s x).clk = x.clk := by unfold finX rv1; split <;> rfl
abbrev trsX (s : Sto) : List Trc := (trsS s).map fun x => (x.1, x.2.map (finX s))
theorem finS_flat (s : Sto) : finS s = (trsX s).flatMap fun x => x.2 := by
  unfold finS stoSp
  rw [List.map_flatMap, List.flatMap_map]
theorem trsX_ne {s : Sto} (hs : s.ok) : (trsX s).Pairwise fun a b => a.1 ≠ b.1 := by
  rw [List.pairwise_map]
  exact (trsN_srt hs _ (Nat.le_refl _)).imp fun {a b} h => by
    show a.1 ≠ b.1
    omega
theorem trsX_tr (s : Sto) : ∀ x ∈ trsX s, ∀ y ∈ x.2, y.tr = (x.1 : Nat) := fun x hx y hy => by
  obtain ⟨z, hz, rfl⟩ := List.mem_map.1 hx
  obtain ⟨w, hw, rfl⟩ := List.mem_map.1 hy
  rw [finX_tr]
  exact story_trs z hz w hw
theorem finS_trF {s : Sto} (hs : s.ok) : ∀ x ∈ trsS s, trF (finS s) (x.1 : Nat) = x.2.map (finX s) := fun x hx => by
  rw [finS_flat]
  exact flat_trF (trsX_ne hs) (trsX_tr s) (x.1, x.2.map (finX s)) (List.mem_map.2 ⟨x, hx, rfl⟩) rfl
theorem finS_srt {s : Sto} (hs : s.ok) (t : Int) : (trF (finS s) t).Pairwise fun a b => a.id < b.id := by
  by_cases h : ∃ x ∈ trsS s, ((x.1 : Nat) : Int) = t
  · obtain ⟨x, hx, rfl⟩ := h
    rw [finS_trF hs x hx, List.pairwise_map]
    obtain ⟨k, tr, _, h2, _, rfl⟩ := trsN_mem hx
    exact (trcS_sorted s k tr).imp fun {a b} h => by rw [finX_id, finX_id]; exact h
  · rw [finS_flat, flat_trF0 (trsX_tr s) fun x hx e => by
      obtain ⟨z, hz, rfl⟩ := List.mem_map.1 hx
      exact h ⟨z, hz, e⟩]
    exact List.Pairwise.nil
theorem finS_mem {s : Sto} {x : Spn} (h : x ∈ finS s) : ∃ k t i c, s.ts[k]? = some t ∧ t.cs[i]? = some c ∧ x = finX s (spnS s k t i c) := by
  obtain ⟨y, hy, rfl⟩ := List.mem_map.1 h
  obtain ⟨k, t, i, c, h1, h2, rfl⟩ := stoSp_mem hy
  exact ⟨k, t, i, c, h1, h2, rfl⟩
theorem finS_clk {s : Sto} : ∀ x ∈ finS s, 1 ≤ x.clk ∧ x.clk ≤ 4 := fun x hx => by
  obtain ⟨k, t, i, c, _, _, rfl⟩ := finS_mem hx
  rw [finX_clk]
  show 1 ≤ ((1 + c.cl % 4 : Nat) : Int) ∧ ((1 + c.cl % 4 : Nat) : Int) ≤ 4
  omega
theorem finS_len {s : Sto} (hs : s.ok) : (finS s).length ≤ 24 := by
  unfold finS
  rw [List.length_map]
  exact story_len hs
theorem fin_trs {s : Sto} (hs : s.ok) {L : List Spn} (hmem : ∀ y, y ∈ L ↔ ∃ x ∈ finS s, y = x ∨ (0 < x.rev ∧ y = erl x)) : trsF L = (trsS s).map fun x => ((x.1 : Nat) : Int) := by
  refine lt_uniI (trsF_lt L) ?_ fun t => ?_
  · rw [List.pairwise_map]
    exact (trsN_srt hs _ (Nat.le_refl _)).imp fun {a b} h => by omega
  · rw [trsF_mem, List.mem_map]
    constructor
    · rintro ⟨y, hy, rfl⟩
      obtain ⟨x, hx, h⟩ := (hmem y).1 hy
      rw [finS_flat] at hx
      obtain ⟨z, hz, hxz⟩ := List.mem_flatMap.1 hx
      have e := trsX_tr s z hz x hxz
      obtain ⟨w, hw, rfl⟩ := List.mem_map.1 hz
      refine ⟨w, hw, ?_⟩
      rcases h with rfl | ⟨_, rfl⟩ <;> exact e.symm
    · rintro ⟨x, hx, rfl⟩
      obtain ⟨k, tr, _, h2, h0, rfl⟩ := trsN_mem hx
      have hc : tr.cs[0]? = some tr.cs[0] := List.getElem?_eq_getElem h0
      have hin : spnS s k tr 0 tr.cs[0] ∈ trcS s k tr := List.mem_of_getElem? (trcS_at hc)
      refine ⟨finX s (spnS s k tr 0 tr.cs[0]), (hmem _).2 ⟨_, List.mem_map.2 ⟨_, List.mem_flatMap.2 ⟨_, hx, hin⟩, rfl⟩, .inl rfl⟩, ?_⟩
      rw [finX_tr]
      rfl
/-- All final records, in the order of the traces, are those of the story. -/
theorem fin_all {s : Sto} (hs : s.ok) {L : List Spn} (hmem : ∀ y, y ∈ L ↔ ∃ x ∈ finS s, y = x ∨ (0 < x.rev ∧ y = erl x)) : (trsF L).flatMap (ofS L) = finS s := by
  rw [fin_trs hs hmem, List.flatMap_map, finS_flat, List.flatMap_map, List.flatMap_def, List.flatMap_def]
  congr 1
  refine List.map_congr_left fun x hx => ?_
  rw [final_law hmem (finS_srt hs), finS_trF hs x hx]
end Go.Proofs.YtigenjeealkdlaaGreat
namespace Go.Proofs.YtigenjeealkdlaaGreat
open Go.RowKit Go.Exe
/-! ### what a story sends is good -/
structure Good (y : Spn) : Prop where
  tr : 1 ≤ y.tr ∧ y.tr ≤ 1000000000
  id : 1 ≤ y.id ∧ y.id ≤ 8
  pa : 0 ≤ y.pa ∧ y.pa ≤ 100
  rev : 0 ≤ y.rev ∧ y.rev ≤ 1
  clk : 1 ≤ y.clk ∧ y.clk ≤ 4
  kd : 1 ≤ y.kd ∧ y.kd ≤ 5
  st : -21 ≤ y.st ∧ y.st ≤ y.en ∧ y.en ≤ 4000
  sv : ∃ n, y.sv = svN n
  ve : ∃ n, y.ve = veN n
  op : ∃ n, y.op = opN n
  ats : ∃ c : Cal, c.ta < 256 ∧ y.ats = attsC c
  lks : y.lks = [] ∨ ∃ a b, y.lks = [(a, b)] ∧ (1 ≤ a ∧ a ≤ 1000000000) ∧ 1 ≤ b ∧ b ≤ 16
theorem stepE_ge (t : Tre) (L : List Nat) (i j : Nat) : L.getD j 0 ≤ (stepE t L i).getD j 0 := by
  unfold stepE
  split
  · simp only [List.getD_eq_getElem?_getD, List.getElem?_set]
    split
    · rename_i e
      subst e
      split
      · exact Nat.le_max_left _ _
      · rename_i h
        rw [List.getElem?_eq_none (by omega)]
        exact Nat.le_refl _
    · exact Nat.le_refl _
  · exact Nat.le_refl _
theorem enG_ge (t : Tre) (j : Nat) : ∀ (n : Nat) (L : List Nat), L.getD j 0 ≤ (enG t n L).getD j 0
  | 0, L => Nat.le_refl _
  | n + 1, L => Nat.le_trans (stepE_ge t L (n + 1) j) (enG_ge t j n _)
theorem enF_ge (t : Tre) (j : Nat) : ∀ n, n ≤ t.cs.length → (stF t n).getD j 0 ≤ (enF t n).getD j 0
  | 0, _ => Nat.le_refl _
  | n + 1, h => by
    have ih := enF_ge t j n (by omega)
    have hc := List.getElem?_eq_getElem (show n < t.cs.length by omega)
    have l1 := stF_len t n (by omega)
    have l2 := enF_len t n (by omega)
    rw [stF_at hc, enF_at hc]
    simp only [List.getD_eq_getElem?_getD, List.getElem?_append, l1, l2] at ih ⊢
    split
    · exact ih
    · cases e : j - n with
      | zero => simp
      | succ m => simp
theorem en_ge (t : Tre) (j : Nat) : (stL t).getD j 0 ≤ (enL t).getD j 0 := Nat.le_trans (enF_ge t j _ (Nat.le_refl _)) (enG_ge t j _ _)
theorem good_spn {s : Sto} (hs : s.ok) {k i : Nat} {t : Tre} {c : Cal} (hk : s.ts[k]? = some t) (hc : t.cs[i]? = some c) : Good (spnS s k t i c) := by
  have hkl := (List.getElem?_eq_some_iff.1 hk).1
  have hil := (List.getElem?_eq_some_iff.1 hc).1
  have ht := hs.1 t (List.mem_of_getElem? hk)
  obtain ⟨_, _, hcs, h8⟩ := ht
  have hcc := hcs c (List.mem_of_getElem? hc)
  have h1 := tidN_lt hs k hkl
  have h2 : 1 ≤ tidN s k := by simp only [tidN, hk]; omega
  have h3 := offC_b s (1 + c.cl % 4)
  have h4 := getD_le (stL_le h8) i
  have h5 := getD_le (enL_le h8) i
  have h6 := en_ge t i
  have h7 : -21 ≤ byS s k i c ∧ byS s k i c ≤ 600 := by unfold byS; split <;> omega
  refine { tr := ?_, id := ?_, pa := ?_, rev := ⟨Int.le_refl 0, by show (0 : Int) ≤ 1; decide⟩, clk := ?_, kd := ?_, st := ?_, sv := ⟨_, rfl⟩, ve := ⟨_, rfl⟩, op := ⟨_, rfl⟩, ats := ⟨c, hcc.2.2.2.2.2.2.2.2.2, rfl⟩, lks := ?_ }
  · show 1 ≤ ((tidN s k : Nat) : Int) ∧ ((tidN s k : Nat) : Int) ≤ 1000000000
    omega
  · show 1 ≤ ((i + 1 : Nat) : Int) ∧ ((i + 1 : Nat) : Int) ≤ 8
    omega
  · show 0 ≤ ((paN c i : Nat) : Int) ∧ ((paN c i : Nat) : Int) ≤ 100
    have : paN c i ≤ 100 := by unfold paN; split <;> (try split) <;> omega
    omega
  · show 1 ≤ ((1 + c.cl % 4 : Nat) : Int) ∧ ((1 + c.cl % 4 : Nat) : Int) ≤ 4
    omega
  · show 1 ≤ ((kdC c : Nat) : Int) ∧ ((kdC c : Nat) : Int) ≤ 5
    unfold kdC
    omega
  · show -21 ≤ (((stL t).getD i 0 : Nat) : Int) + byS s k i c ∧ (((stL t).getD i 0 : Nat) : Int) + byS s k i c ≤ (((enL t).getD i 0 : Nat) : Int) + byS s k i c ∧ (((enL t).getD i 0 : Nat) : Int) + byS s k i c ≤ 4000
    omega
  · show (if hasL c i (stL t) then [(((tidN s k : Nat) : Int), ((c.li % 16 + 1 : Nat) : Int))] else []) = [] ∨ _
    split
    · rename_i h
      refine .inr ⟨((tidN s k : Nat) : Int), ((c.li % 16 + 1 : Nat) : Int), ?_, ?_⟩
      · show (if hasL c i (stL t) then [(((tidN s k : Nat) : Int), ((c.li % 16 + 1 : Nat) : Int))] else []) = _
        rw [if_pos h]
      · omega
    · exact .inl rfl
theorem good_fin {s : Sto} {x : Spn} (h : Good x) : Good (finX s x) := by
  unfold finX rv1
  split
  · exact { h with rev := ⟨by show (0 : Int) ≤ 1; decide, Int.le_refl 1⟩ }
  · exact h
theorem good_erl {x : Spn} (h : Good x) : Good (erl x) :=
  { h with rev := ⟨Int.le_refl 0, by show (0 : Int) ≤ 1; decide⟩, st := ⟨h.st.1, Int.le_refl _, by have := h.st; show x.st ≤ 4000; omega⟩ }
theorem good_mem {s : Sto} (hs : s.ok) {L : List Spn} (hmem : ∀ y, y ∈ L ↔ ∃ x ∈ finS s, y = x ∨ (0 < x.rev ∧ y = erl x)) : ∀ y ∈ L, Good y := fun y hy => by
  obtain ⟨x, hx, h⟩ := (hmem y).1 hy
  obtain ⟨k, t, i, c, hk, hc, rfl⟩ := finS_mem hx
  have hg := good_fin (s := s) (good_spn hs hk hc)
  rcases h with rfl | ⟨_, rfl⟩
  · exact hg
  · exact good_erl hg
theorem good_finS {s : Sto} (hs : s.ok) : ∀ y ∈ finS s, Good y := fun y hy => by
  obtain ⟨k, t, i, c, hk, hc, rfl⟩ := finS_mem hy
  exact good_fin (good_spn hs hk hc)
/-! ### Good records pass the check, and are small -/
theorem nm_sv (n : Nat) : isName (svN n) = true := by
  unfold svN
  repeat' split
  all_goals (unfold isName emB witB; rw [BA_toList, BA_toList]; decide)
theorem nm_op (n : Nat) : isName (opN n) = true := by
  unfold opN
  repeat' split
  all_goals (unfold isName emB witB; rw [BA_toList, BA_toList]; decide)
theorem nm_ve (n : Nat) : (!emB (veN n) && !isName (veN n)) = false := by
  unfold veN
  repeat' split
  all_goals (unfold isName emB witB; rw [BA_toList, BA_toList]; decide)
theorem ky1 : isName ⟨#[111, 107]⟩ = true := by unfold isName emB witB; rw [BA_toList, BA_toList]; decide
theorem ky2 : isName ⟨#[115, 105, 122, 101]⟩ = true := by unfold isName emB witB; rw [BA_toList, BA_toList]; decide
theorem ky3 : isName ⟨#[122, 111, 110, 101]⟩ = true := by unfold isName emB witB; rw [BA_toList, BA_toList]; decide
theorem kl1 : leS ⟨#[115, 105, 122, 101]⟩ ⟨#[111, 107]⟩ = false := by unfold leS; rw [BA_toList, BA_toList]; decide
theorem kl2 : leS ⟨#[122, 111, 110, 101]⟩ ⟨#[115, 105, 122, 101]⟩ = false := by unfold leS; rw [BA_toList, BA_toList]; decide
theorem kv1 (k : ByteArray) (n : Nat) (h : n < 2) : (valE ⟨k, 3, .empty, (n : Int)⟩ != 0) = false := by
  have : n = 0 ∨ n = 1 := by omega
  rcases this with rfl | rfl
  all_goals (unfold valE vOk; rw [em_e]; rfl)
theorem kv2 (k : ByteArray) (n : Int) (h : -1000 ≤ n ∧ n ≤ 1000) : (valE ⟨k, 2, .empty, n⟩ != 0) = false := by
  have e1 : decide (n ≥ -1099511627776) = true := by simp; omega
  have e2 : decide (n ≤ 1099511627776) = true := by simp; omega
  unfold valE vOk
  rw [em_e, e1, e2]
  rfl
theorem kv3 (k : ByteArray) (n : Nat) : (valE ⟨k, 1, zoneS n, 0⟩ != 0) = false := by
  have e : ∀ z : ByteArray, valE ⟨k, 1, z, 0⟩ = valE ⟨.empty, 1, z, 0⟩ := fun z => rfl
  rw [e]
  unfold zoneS
  repeat' split
  all_goals (unfold valE vOk witB; rw [BA_toList]; decide)
theorem good_ats {c : Cal} (h : c.ta < 256) : attsE (attsC c) = 0 := by
  have v1 := kv1 ⟨#[111, 107]⟩ (c.ta / 4 % 2) (by omega)
  have v2 := kv2 ⟨#[115, 105, 122, 101]⟩ ((c.ta : Int) - 100) (by omega)
  have v3 := kv3 ⟨#[122, 111, 110, 101]⟩ (c.ta / 8 % 3)
  have h4 : c.ta % 4 = 0 ∨ c.ta % 4 = 1 ∨ c.ta % 4 = 2 ∨ c.ta % 4 = 3 := by omega
  unfold attsE attsC
  rcases h4 with e | e | e | e <;> rw [e]
  · rfl
  · simp only [List.take, attE, ky1, v1, Option.any, if_true, Bool.false_eq_true, if_false]
    rfl
  · simp only [List.take, attE, ky1, ky2, kl1, v1, v2, Option.any, if_true, Bool.false_eq_true, if_false]
    rfl
  · simp only [List.take, attE, ky1, ky2, ky3, kl1, kl2, v1, v2, v3, Option.any, if_true, Bool.false_eq_true, if_false]
    rfl
theorem good_lks {y : Spn} (h : Good y) : lnksE y.lks = 0 := by
  rcases h.lks with e | ⟨a, b, e, ha, hb⟩
  · rw [e]; rfl
  · rw [e]
    have h1 : badId a = false := by unfold badId; simp; omega
    have h2 : badId b = false := by unfold badId; simp; omega
    simp only [lnksE, lnkE, h1, h2, Option.any, Bool.or_false, Bool.false_eq_true, if_false]
    rfl
theorem good_chk {y : Spn} (h : Good y) : chkS y = 0 := by
  have g1 := h.tr
  have g2 := h.id
  have g3 := h.pa
  have g4 := h.rev
  have g5 := h.clk
  have g6 := h.kd
  have g7 := h.st
  have h1 : ckId y = false := by
    unfold ckId badId
    simp only [Bool.or_eq_false_iff, decide_eq_false_iff_not]
    refine ⟨⟨⟨⟨⟨⟨⟨⟨?_, ?_⟩, ?_, ?_⟩, ?_⟩, ?_⟩, ?_⟩, ?_⟩, ?_⟩, ?_⟩ <;> omega
  have h2 : ckNm y = false := by
    obtain ⟨a, ha⟩ := h.sv
    obtain ⟨b, hb⟩ := h.ve
    obtain ⟨c, hc⟩ := h.op
    unfold ckNm
    rw [ha, hb, hc, nm_sv, nm_op, nm_ve]
    rfl
  have h3 : (decide (y.kd < 1) || decide (y.kd > 5)) = false := by simp; omega
  have h4 : (decide (min y.st y.en < -1099511627776) || decide (max y.st y.en > 1099511627776)) = false := by
    simp only [Bool.or_eq_false_iff, decide_eq_false_iff_not]
    omega
  have h5 : decide (y.en < y.st) = false := by simp; omega
  have h6 : decide (y.en - y.st > 1099511627776) = false := by simp; omega
  obtain ⟨c, hc, he⟩ := h.ats
  unfold chkS
  rw [h1, h2, h3, h4, h5, h6, he, good_ats hc, good_lks h]
  rfl
theorem sv_sz (n : Nat) : (svN n).size ≤ 6 := by unfold svN; (repeat' split) <;> decide
theorem ve_sz (n : Nat) : (veN n).size ≤ 6 := by unfold veN; (repeat' split) <;> decide
theorem op_sz (n : Nat) : (opN n).size ≤ 6 := by unfold opN; (repeat' split) <;> decide
theorem zo_sz (n : Nat) : (zoneS n).size ≤ 6 := by unfold zoneS; (repeat' split) <;> decide
theorem ats_sz (c : Cal) (hc : c.ta < 256) : ∀ a ∈ attsC c, (a.key.size ≤ 6 ∧ a.text.size ≤ 6) ∧ I64 a.kind ∧ I64 a.num := fun a ha => by
  have h := List.mem_of_mem_take ha
  simp only [List.mem_cons, List.not_mem_nil, or_false] at h
  unfold I64
  rcases h with rfl | rfl | rfl
  · exact ⟨⟨by show (ByteArray.mk #[111, 107]).size ≤ 6; decide, by show ByteArray.empty.size ≤ 6; decide⟩, by dsimp only; omega, by dsimp only; omega⟩
  · exact ⟨⟨by show (ByteArray.mk #[115, 105, 122, 101]).size ≤ 6; decide, by show ByteArray.empty.size ≤ 6; decide⟩, by dsimp only; omega, by dsimp only; omega⟩
  · exact ⟨⟨by show (ByteArray.mk #[122, 111, 110, 101]).size ≤ 6; decide, zo_sz _⟩, by dsimp only; omega, by dsimp only; omega⟩
theorem attsC_len (c : Cal) : (attsC c).length ≤ 3 := by unfold attsC; rw [List.length_take]; exact Nat.min_le_right _ _
theorem le_big {a : Nat} (h : a ≤ 6) : a ≤ 140737488355328 := by omega
theorem good_str {y : Spn} (h : Good y) : StrOk y := by
  obtain ⟨a, ha⟩ := h.sv
  obtain ⟨b, hb⟩ := h.ve
  obtain ⟨c, hc⟩ := h.op
  obtain ⟨d, hd, he⟩ := h.ats
  refine ⟨⟨by rw [ha]; exact le_big (sv_sz a), by rw [hb]; exact le_big (ve_sz b), by rw [hc]; exact le_big (op_sz c)⟩, fun x hx => ?_⟩
  rw [he] at hx
  obtain ⟨⟨h1, h2⟩, _⟩ := ats_sz d hd x hx
  exact ⟨le_big h1, le_big h2⟩
theorem good_z {y : Spn} (h : Good y) : SpZ y := by
  have g1 := h.tr
  have g2 := h.id
  have g3 := h.pa
  have g4 := h.rev
  have g5 := h.clk
  have g6 := h.kd
  have g7 := h.st
  obtain ⟨a, ha⟩ := h.sv
  obtain ⟨b, hb⟩ := h.ve
  obtain ⟨c, hc⟩ := h.op
  obtain ⟨d, hd, he⟩ := h.ats
  have k1 := sv_sz a
  have k2 := ve_sz b
  have k3 := op_sz c
  rw [← ha] at k1
  rw [← hb] at k2
  rw [← hc] at k3
  have k4 := ats_sz d hd
  have k5 := attsC_len d
  rw [← he] at k4 k5
  have k6 : y.lks.length ≤ 1 := by rcases h.lks with e | ⟨a, b, e, _⟩ <;> rw [e] <;> simp
  have k7 : ∀ r ∈ y.lks, I64 r.1 ∧ I64 r.2 := fun r hr => by
    rcases h.lks with e | ⟨a, b, e, i1, i2⟩
    · rw [e] at hr; cases hr
    · rw [e, List.mem_singleton] at hr
      subst hr
      unfold I64
      dsimp only
      omega
  refine ⟨{ tr := by unfold I64; omega, id := by unfold I64; omega, pa := by unfold I64; omega, rev := by unfold I64; omega, clk := by unfold I64; omega, kd := by unfold I64; omega, st := by unfold I64; omega, en := by unfold I64; omega, sv := le_big k1, ve := le_big k2, op := le_big k3, ats := fun x hx => ?_, lks := k7, nat := by omega, nlk := by omega }, ?_⟩
  · obtain ⟨⟨h1, h2⟩, h3, h4⟩ := k4 x hx
    exact ⟨⟨h3, h4⟩, le_big h1, le_big h2⟩
  · have := spanS_le y 6 k1 k2 k3 fun x hx => (k4 x hx).1
    omega
end Go.Proofs.YtigenjeealkdlaaGreat
namespace Go.Proofs.YtigenjeealkdlaaGreat
open Go.RowKit Go.Exe
/-! ### AssemblyOrderless -/
def Tre.okB (t : Tre) : Prop := t.slot < 256 ∧ t.start < 256 ∧ ∀ c ∈ t.cs, c.ok
def Sto.okB (s : Sto) : Prop := (∀ t ∈ s.ts, t.okB) ∧ i8 s.o1 ∧ i8 s.o2 ∧ i8 s.o3 ∧ i8 s.o4 ∧ s.wr < 256
theorem short_ok {s : Sto} (h : s.okB) (hs : shortS s = true) : s.ok ∧ s.sy.length ≤ 6 := by
  unfold shortS shortT at hs
  rw [List.take_length] at hs
  simp only [Bool.and_eq_true, List.all_eq_true, decide_eq_true_eq] at hs
  obtain ⟨⟨h1, h2⟩, h3⟩ := hs
  exact ⟨⟨fun t ht => ⟨(h.1 t ht).1, (h.1 t ht).2.1, (h.1 t ht).2.2, h1 t ht⟩, h.2.1, h.2.2.1, h.2.2.2.1, h.2.2.2.2.1, h.2.2.2.2.2, h2⟩, h3⟩
/-! ### lengths -/
theorem sent_len {B : Nat} : ∀ {l : List Frg}, (∀ f ∈ l, f.sp.length ≤ B) → (sentL l).length ≤ B * l.length
  | [], _ => by simp [sentL]
  | f :: l, h => by
    have h1 := h f (by simp)
    have h2 := sent_len (l := l) fun g hg => h g (by simp [hg])
    show (f.sp ++ sentL l).length ≤ B * (l.length + 1)
    rw [List.length_append, Nat.mul_add]
    omega
theorem chunks_sp (c : Int) (n : Nat) (m : List Spn) : ∀ k p q, ∀ f ∈ chunks c n m k p q, f.sp.length ≤ m.length
  | 0, _, _, f, h => by simp [chunks] at h
  | k + 1, p, q, f, h => by
    unfold chunks at h
    split at h
    · rcases List.mem_cons.1 h with rfl | h
      · show ((m.take (min m.length (p + n))).drop p).length ≤ m.length
        rw [List.length_drop, List.length_take]
        omega
      · exact chunks_sp c n m k _ _ f h
    · simp at h
theorem frs_sp (n : Nat) (fin : List Spn) (xs : List Exc) (k : Nat) : ∀ f ∈ frsN n fin xs k, f.sp.length ≤ 2 * fin.length := fun f hf => by
  obtain ⟨i, _, h⟩ := List.mem_flatMap.1 hf
  rcases List.mem_append.1 h with h | h
  · exact Nat.le_trans (chunks_sp _ _ _ _ _ _ f h) (mineF_len _ _)
  · unfold lastF at h
    split at h
    · simp at h
    · rw [List.mem_singleton.1 h]; exact Nat.zero_le _
theorem sent_congr {l m : List Frg} (h : ∀ f, f ∈ l ↔ f ∈ m) (y : Spn) : y ∈ sentL l ↔ y ∈ sentL m := by
  unfold sentL
  rw [List.mem_flatMap, List.mem_flatMap]
  exact ⟨fun ⟨f, h1, h2⟩ => ⟨f, (h f).1 h1, h2⟩, fun ⟨f, h1, h2⟩ => ⟨f, (h f).2 h1, h2⟩⟩
theorem sent_at {l : List Frg} {i : Nat} {f : Frg} (h : l[i]? = some f) : sentL (l.take (i + 1)) = sentL (l.take i) ++ f.sp := by
  unfold sentL
  rw [List.take_add_one, h]
  simp
theorem nlA_le (e : Nat) (l : List (List AV)) : ALe (nlA e l) (.sl e l) := by
  cases l with
  | nil => exact ALe.nil
  | cons x r => exact ALe.rfl
theorem frg_le (l : List Frg) : Al (Al ALe) (l.map frgR) (l.map frgA) := by
  induction l with
  | nil => exact Al.nil
  | cons f l ih => exact Al.cons (Al.cons ALe.rfl (Al.cons ALe.rfl (Al.cons (nlA_le _ _) (Al.cons (nlA_le _ _) Al.nil)))) ih
/-- What Add does with the next fragment. -/
theorem addNext (c144 : SortC Tryz.prog 144 14) (c85 : SortI Tryz.prog 85) (g122 : GrowC Tryz.prog 122 88 14 168) {l : List Frg} (hg : ∀ y ∈ sentL l, Good y) (h48 : ∀ f ∈ l, f.sp.length ≤ 48) (hl : l.length ≤ 300) {i : Nat} {f : Frg} (hf : l[i]? = some f) {m : RM} (h : Hld m (sentL (l.take i))) :
    GCall Tryz.prog 36 2 (St.g [.c (.ptr 0 0), spsT f.sp] (asmH m) 2) (St.r (.t [(false, [.im (.sl 3 ((addF m f.sp).2.map iA))]), (false, [fl (.int .i64 0)])]) [(0, .box 115 [.mp 1]), (1, .map 3 (rcE (addF m f.sp).1))] 2) ∧ Hld (addF m f.sp).1 (sentL (l.take (i + 1))) := by
  have hm := List.mem_of_getElem? hf
  have hgf : ∀ y ∈ f.sp, Good y := fun y hy => hg y (List.mem_flatMap.2 ⟨f, hm, hy⟩)
  have h1 := h48 f hm
  have h2 : (sentL (l.take i)).length ≤ 48 * (l.take i).length := sent_len fun g hg' => h48 g (List.mem_of_mem_take hg')
  rw [List.length_take] at h2
  have h3 : (f.sp.length + 1) * f.sp.length ≤ 49 * 48 := Nat.mul_le_mul (by omega) h1
  refine ⟨add_c c144 c85 g122 m f.sp (sentL (l.take i)).length (fun y hy => good_str (hgf y hy)) (chkL_all fun y hy => good_chk (hgf y hy)) (fun y hy => (good_z (hgf y hy)).1.tr) (row_le h) ?_, ?_⟩
  · have h4 : (sentL (l.take i)).length + (f.sp.length + 1) * f.sp.length ≤ 100000 := by
      generalize (f.sp.length + 1) * f.sp.length = z at *
      omega
    exact Nat.le_trans (Nat.mul_le_mul_right 168 h4) (by decide)
  · rw [sent_at hf]
    exact addF_hld h f.sp
end Go.Proofs.YtigenjeealkdlaaGreat
namespace Go.Proofs.YtigenjeealkdlaaGreat
open Go.RowKit Go.Exe
attribute [local irreducible] W AX Run RunD AStep AOp AOpX AStB AStH AStG Fits PCall GCall PostG Post Stop
theorem orderless_c (c144 : SortC Tryz.prog 144 14) (c85 : SortI Tryz.prog 85) (g84 : GrowC Tryz.prog 84 3 1 8) (g122 : GrowC Tryz.prog 122 88 14 168) (s : Sto) (hsB : s.okB) (ys : List Syn) (hy : ∀ y ∈ ys, y.ok) (hsy : s.sy = ys.map synA) (sz : Nat) (hsz : sz < 256) (o : List Nat) (ho : ∀ b ∈ o, b < 256) :
    PCall Tryz.prog 8 [stoT s, ft (.int .u8 (sz : Nat)), .c (.im (.sl 5 (o.map byA)))] (ft (.bool true)) := by
  have c12 := known_c c144 c85 g84 g122
  have c32 := short_c s
  cases hsh : shortS s with
  | false =>
    rw [hsh] at c32
    simp only [stoT, stoA, List.map] at c32 ⊢
    refine PCall.intro (nt := 113) (rs := [.tmp 6]) Tryz.func8 rfl ⟨by kernel_rfl, by kernel_rfl, by kernel_rfl⟩ (by simp) ?_
    rintro ⟨P, w0, ok0, may, np, pblk⟩ rfl rfl
    repeat' (first | refine W.seq fun K hK => ?_ | refine W.block ?_ | ((first | refine wR ?_ | refine wD ?_ | refine W.skip ?_ | refine W.exit ?_ | refine W.ret (Post.ret ?_) | refine aP ?_ | refine aF ?_ | refine aL ?_ | refine aU ?_ | refine aM ?_ | refine aN ?_ | refine aR ?_); simp only [go_sem, reduceCtorEq]) | refine wT ?_ | refine wF ?_ | refine wC (fun h => ?_) (fun h => ?_) | refine iK ?_ | refine aI2 ?_ | (refine hK _ ?_; clear hK K) | clear hK K)
  | true =>
    cases h64 : decide ((o.length : Int) > 64) with
    | true =>
      rw [hsh] at c32
      simp only [stoT, stoA, List.map] at c32 ⊢
      refine PCall.intro (nt := 113) (rs := [.tmp 6]) Tryz.func8 rfl ⟨by kernel_rfl, by kernel_rfl, by kernel_rfl⟩ (by simp) ?_
      rintro ⟨P, w0, ok0, may, np, pblk⟩ rfl rfl
      repeat' (first | refine W.seq fun K hK => ?_ | refine W.block ?_ | ((first | refine wR ?_ | refine wD ?_ | refine W.skip ?_ | refine W.exit ?_ | refine W.ret (Post.ret ?_) | refine aP ?_ | refine aF ?_ | refine aL ?_ | refine aU (hnn := by simp only [go_sem, reduceCtorEq, List.length_map, h64]) ?_ | refine aM ?_ | refine aN ?_ | refine aR ?_); simp only [go_sem, reduceCtorEq, List.length_map, h64]) | refine wT ?_ | refine wF ?_ | refine wC (fun h => ?_) (fun h => ?_) | refine iK ?_ | refine aI2 ?_ | (refine hK _ ?_; clear hK K) | clear hK K)
    | false =>
      rw [hsh] at c32
      have hol : o.length ≤ 64 := by have := of_decide_eq_false h64; omega
      obtain ⟨hs, hs6⟩ := short_ok hsB hsh
      rw [hsy, List.length_map] at hs6
      have hfl := finS_len hs
      have c40 := final_c s hs
      have c63 := exchanges_c s hs ys hy hsy hs6
      have c33 := (frags_c s sz hsz (finS s) (ys.map (excF s)) hfl (by rw [List.length_map]; exact hs6) c40 c63).slLe (frg_le _)
      have hmem := fun y => sent_mem (n := 1 + sz % 4) (by omega) (xs := ys.map (excF s)) (fun x hx => finS_clk (s := s) x hx) y
      have hsp := frs_sp (1 + sz % 4) (finS s) (ys.map (excF s)) 4
      have hl := frsN_len (1 + sz % 4) (finS s) (ys.map (excF s)) 4
      generalize frsN (1 + sz % 4) (finS s) (ys.map (excF s)) 4 = l at *
      have hll : l.length ≤ 196 := by omega
      have hl48 : ∀ f ∈ l, f.sp.length ≤ 48 := fun f hf => by have := hsp f hf; omega
      have hgl : ∀ y ∈ sentL l, Good y := good_mem hs hmem
      have c34 := shuf_c l o ho hol (by omega)
      have hsm := fun y => sent_congr (fun f => shuf_mem l o f) y
      have hm48 : ∀ f ∈ shuf l o, f.sp.length ≤ 48 := fun f hf => hl48 f ((shuf_mem l o f).1 hf)
      have hgm : ∀ y ∈ sentL (shuf l o), Good y := fun y h => hgl y ((hsm y).1 h)
      have hml : (shuf l o).length ≤ 260 := by have := shuf_len l o; omega
      generalize shuf l o = m at *
      have NL := fun {i : Nat} {f : Frg} (hf : l[i]? = some f) {r : RM} (h : Hld r (sentL (l.take i))) => addNext c144 c85 g122 hgl hl48 (by omega) hf h
      have NM := fun {i : Nat} {f : Frg} (hf : m[i]? = some f) {r : RM} (h : Hld r (sentL (m.take i))) => addNext c144 c85 g122 hgm hm48 (by omega) hf h
      have hLl : (sentL l).length ≤ 48 * l.length := sent_len hl48
      have hLm : (sentL m).length ≤ 48 * m.length := sent_len hm48
      have recC : ∀ {r : RM} {L : List Spn}, Hld r L → (∀ y ∈ L, Good y) → L.length ≤ 100000 → GCall Tryz.prog 41 2 (St.g [.c (.ptr 0 0)] (asmH r) 2) (St.r (spsT (setS L)) (asmH r) 2) := fun {r L} h hz hle => by
        have h1 := mem_le h
        have h2 := recsL_le h
        have := records_c c144 c85 r (by omega) (fun k hk => by
          obtain ⟨y, hy, rfl⟩ := (h.mem k).1 hk
          exact (good_z (hz y hy)).1.tr) (by omega)
        rwa [recsL_set h] at this
      have RL := fun {r : RM} (h : Hld r (sentL l)) => recC h hgl (by omega)
      have RM' := fun {r : RM} (h : Hld r (sentL m)) => recC h hgm (by omega)
      have hset : setS (sentL m) = setS (sentL l) := setS_eq hsm
      have DL : ∀ {r : RM}, Hld r (sentL l) → GCall Tryz.prog 37 2 (St.g [.c (.ptr 0 0)] (asmH r) 2) (St.r (.c (.ref 2)) (asmH r ++ [(2, .row 74 (imR ((trsF (sentL l)).map fun k => [.flat (.int .i64 k), .flat (.int .i64 1), .sl 88 ((ofS (sentL l) k).map spA)])))]) 3) := fun {r} h => by
        have h1 := mem_le h
        have := data_c c144 c85 r (by omega) (fun k hk => by
          obtain ⟨y, hy, rfl⟩ := (h.mem k).1 hk
          exact (good_z (hgl y hy)).1.tr)
        rw [keys_is h, show dtA r = fun k => [.flat (.int .i64 k), .flat (.int .i64 1), .sl 88 ((ofS (sentL l) k).map spA)] from funext fun k => by unfold dtA; rw [hld_win h]] at this
        exact this
      have hall := fin_all hs hmem
      have htl := trsF_le (sentL l)
      have Q1 := same39_c (finS s) (finS s) (fun y hy => good_z (good_finS hs y hy)) (fun y hy => good_z (good_finS hs y hy)) (by omega) (by omega)
      have Q2 := same39_c (setS (sentL l)) (setS (sentL l)) (fun y hy => good_z (hgl y (mem_setS.1 hy))) (fun y hy => good_z (hgl y (mem_setS.1 hy))) (by have := setS_le (sentL l); omega) (by have := setS_le (sentL l); omega)
      rw [eqF_refl] at Q1 Q2
      have hfa : ∀ i, (((trsF (sentL l)).take i).flatMap (ofS (sentL l))).length ≤ 24 := fun i => by
        have h1 : (finS s).length = (((trsF (sentL l)).take i).flatMap (ofS (sentL l))).length + (((trsF (sentL l)).drop i).flatMap (ofS (sentL l))).length := by
          rw [← hall, ← List.length_append, ← List.flatMap_append, List.take_append_drop]
        omega
      clear c144 c85 g84 g122 hsB hsh hs hmem hsp hl hl48 hgl hsm hm48 hgm recC
      simp only [stoT, stoA, List.map] at c32 c33 c40 ⊢
      clear c63
      have n0 : ((0 : Int) != 0) = false := by decide
      unfold asmH at NL NM RL RM' DL
      refine PCall.intro (nt := 113) (rs := [.tmp 6]) Tryz.func8 rfl ⟨by kernel_rfl, by kernel_rfl, by kernel_rfl⟩ (by simp) ?_
      rintro ⟨P, w0, ok0, may, np, pblk⟩ rfl rfl
      repeat' (first | refine W.stop (id := 5) ?_ | refine W.seq fun K hK => ?_ | refine W.block ?_ | ((first | refine wR ?_ | refine wD ?_ | refine W.skip ?_ | refine W.exit ?_ | refine W.ret (Post.ret ?_) | refine aP ?_ | refine aF ?_ | refine aL ?_ | refine aU (hnn := by simp only [go_sem, reduceCtorEq, List.length_map, h64]) ?_ | refine aM ?_ | refine aN ?_ | refine aR ?_); simp only [go_sem, reduceCtorEq, List.length_map, h64]) | refine wT ?_ | refine wF ?_ | refine wC (fun h => ?_) (fun h => ?_) | refine iK ?_ | refine aI2 ?_ | (refine hK _ ?_; clear hK K) | clear hK K)
      refine Stop.out ?_
      refine W.regE ?_
      refine ⟨rfl, OpE.gcallN 100 rfl rfl new_c rfl (fun k hk hu => by simp [St.used] at hu; omega) ?_⟩
      simp only [go_sem]
      refine ⟨rfl, OpE.gcallN 200 rfl rfl new_c rfl (fun k hk hu => by simp [St.used] at hu; omega) ?_⟩
      simp only [go_sem]
      refine ⟨rfl, OpE.ofAOp 300 (by simp [St.used]) ?_⟩
      simp only [go_sem]
      refine ⟨rfl, OpE.ofAOp 301 (by simp [St.used]) ?_⟩
      simp only [go_sem]
      refine ⟨_, Fits.fit [(101, 0), (100, 1), (201, 2), (200, 3), (0, 4)] [3, 7, 8, 9, 10] 5 rfl rfl Fits.rfl, ?_⟩
      simp only [go_sem, rnEs_rcE]
      repeat' (first | refine W.seq fun K hK => ?_ | refine W.block ?_ | ((first | refine wR ?_ | refine wD ?_ | refine W.skip ?_ | refine W.exit ?_ | refine W.ret (Post.ret ?_) | refine aP ?_ | refine aF ?_ | refine aL ?_ | refine aU ?_ | refine aM ?_ | refine aN ?_ | refine aR ?_); simp only [go_sem, reduceCtorEq]) | refine wT ?_ | refine wF ?_ | refine wC (fun h => ?_) (fun h => ?_) | refine iK ?_ | refine aI2 ?_ | (refine hK _ ?_; clear hK K) | clear hK K)
      clear c12 c32 c33 c34 h64
      -- x adds the fragments
      refine W.loopF (T := fun x : Nat × RM => { t := [(3, .c (.ptr 4 0)), (7, frgsT l), (8, frgsT m), (9, .c (.ptr 0 0)), (10, .c (.ptr 2 0)), (11, ft (.int .i64 (x.1 : Nat)))], h := [(0, .box 115 [.mp 1]), (1, .map 3 (rcE x.2)), (2, .box 115 [.mp 3]), (3, .map 3 (rcE [])), (4, .box 57 [.im (.sl 109 (s.ts.map treA)), fl (.int .i8 s.o1), fl (.int .i8 s.o2), fl (.int .i8 s.o3), fl (.int .i8 s.o4), .im (.sl 150 s.sy), fl (.int .u8 (s.wr : Nat))])], nx := 5, ex := [], nt := 113 })
        (Inv := fun x => x.1 ≤ l.length ∧ Hld x.2 (sentL (l.take x.1))) (μ := fun x => l.length - x.1) (x0 := (0, [])) ?_ ⟨Nat.zero_le _, hld_nil⟩ ?_
      · refine Fits.fit [(0, 0), (1, 1), (2, 2), (3, 3), (4, 4)] [3, 7, 8, 9, 10, 11] 5 rfl rfl ?_
        simp only [go_sem, rnEs_rcE]
        exact Fits.rfl
      rintro ⟨i, r⟩ ⟨hi, hr⟩ KL hKL
      dsimp only at hi hr ⊢
      by_cases hlt : i < l.length
      · obtain ⟨f, hx, hmm, _⟩ := drop_at hlt
        have e1 : decide ((i : Int) < l.length) = true := by simp; omega
        have e2 : decide (i < l.length) = true := by simp; omega
        have hw := w64s i (by omega)
        obtain ⟨A, hA⟩ := NL hx hr
        clear NL NM RL RM' DL c40 Q1 Q2
        repeat' (first | refine W.seq fun K hK => ?_ | refine W.block ?_ | ((first | refine wR ?_ | refine wD ?_ | refine W.skip ?_ | refine W.exit ?_ | refine W.ret (Post.ret ?_) | refine aP ?_ | refine aF ?_ | refine aL ?_ | refine aU (hnn := by simp only [go_sem, reduceCtorEq, List.getElem?_map, hx, frgA, e1, e2, List.length_map]) ?_ | refine aM ?_ | refine aN ?_ | refine aR ?_); simp only [go_sem, reduceCtorEq, List.getElem?_map, hx, frgA, e1, e2, List.length_map]) | refine wT ?_ | refine wF ?_ | refine wC (fun h => ?_) (fun h => ?_) | refine iK ?_ | refine aI2 ?_ | (refine hK _ ?_; clear hK K) | clear hK K)
        refine AX.gcall [0, 1] rfl rfl (A) (by simp only [go_sem, reduceCtorEq, rnEs_rcE, n0, hw]) (by simp only [go_sem, reduceCtorEq, rnEs_rcE, n0, hw]) rfl rfl (by simp only [go_sem, Obj.owns]) rfl (by simp only [go_sem, Obj.owns]) rfl rfl ?_
        simp only [go_sem, reduceCtorEq, rnEs_rcE, n0, hw]
        clear A
        repeat' (first | refine W.seq fun K hK => ?_ | refine W.block ?_ | ((first | refine wR ?_ | refine wD ?_ | refine W.skip ?_ | refine W.exit ?_ | refine W.ret (Post.ret ?_) | refine aP ?_ | refine aF ?_ | refine aL ?_ | refine aU (hnn := by simp only [go_sem, reduceCtorEq, n0, hw]) ?_ | refine aM ?_ | refine aN ?_ | refine aR ?_); simp only [go_sem, reduceCtorEq, n0, hw]) | refine wT ?_ | refine wF ?_ | refine wC (fun h => ?_) (fun h => ?_) | refine iK ?_ | refine aI2 ?_ | (refine hK _ ?_; clear hK K) | clear hK K)
        refine hKL.to (i + 1, (addF r f.sp).1) ⟨by dsimp only; omega, hA⟩ (by dsimp only; omega) (Fits.fit [(0, 0), (1, 1), (2, 2), (3, 3), (4, 4)] [3, 7, 8, 9, 10, 11] 5 rfl rfl ?_)
        simp only [go_sem, rnEs_rcE]
        exact Fits.rfl
      · obtain rfl : i = l.length := by omega
        have e1 : decide ((l.length : Int) < l.length) = false := by simp
        rw [List.take_length] at hr
        clear hKL NL
        have D := DL hr
        have R1 := RL hr
        clear DL RL
        generalize r = r1 at *
        repeat' (first | refine W.seq fun K hK => ?_ | refine W.block ?_ | ((first | refine wR ?_ | refine wD ?_ | refine W.skip ?_ | refine W.exit ?_ | refine W.ret (Post.ret ?_) | refine aP ?_ | refine aF ?_ | refine aL ?_ | refine aU (hnn := by simp only [go_sem, reduceCtorEq, e1, List.length_map]) ?_ | refine aM ?_ | refine aN ?_ | refine aR ?_); simp only [go_sem, reduceCtorEq, e1, List.length_map]) | refine wT ?_ | refine wF ?_ | refine wC (fun h => ?_) (fun h => ?_) | refine iK ?_ | refine aI2 ?_ | (refine hK _ ?_; clear hK K) | clear hK K)
        clear e1
        -- y adds them in the other order
        refine W.loopF (T := fun x : Nat × RM => { t := [(3, .c (.ptr 4 0)), (8, frgsT m), (9, .c (.ptr 0 0)), (10, .c (.ptr 2 0)), (14, ft (.int .i64 (x.1 : Nat)))], h := [(0, .box 115 [.mp 1]), (1, .map 3 (rcE r1)), (2, .box 115 [.mp 3]), (3, .map 3 (rcE x.2)), (4, .box 57 [.im (.sl 109 (s.ts.map treA)), fl (.int .i8 s.o1), fl (.int .i8 s.o2), fl (.int .i8 s.o3), fl (.int .i8 s.o4), .im (.sl 150 s.sy), fl (.int .u8 (s.wr : Nat))])], nx := 5, ex := [], nt := 113 })
          (Inv := fun x => x.1 ≤ m.length ∧ Hld x.2 (sentL (m.take x.1))) (μ := fun x => m.length - x.1) (x0 := (0, [])) ?_ ⟨Nat.zero_le _, hld_nil⟩ ?_
        · refine Fits.fit [(0, 0), (1, 1), (2, 2), (3, 3), (4, 4)] [3, 8, 9, 10, 14] 5 rfl rfl ?_
          simp only [go_sem, rnEs_rcE]
          exact Fits.rfl
        rintro ⟨i, r⟩ ⟨hi, hr⟩ KM hKM
        dsimp only at hi hr ⊢
        by_cases hlt2 : i < m.length
        · obtain ⟨f, hx, hmm, _⟩ := drop_at hlt2
          have e1 : decide ((i : Int) < m.length) = true := by simp; omega
          have e2 : decide (i < m.length) = true := by simp; omega
          have hw := w64s i (by omega)
          obtain ⟨A, hA⟩ := NM hx hr
          clear NM RM' R1 D c40 Q1 Q2
          repeat' (first | refine W.seq fun K hK => ?_ | refine W.block ?_ | ((first | refine wR ?_ | refine wD ?_ | refine W.skip ?_ | refine W.exit ?_ | refine W.ret (Post.ret ?_) | refine aP ?_ | refine aF ?_ | refine aL ?_ | refine aU (hnn := by simp only [go_sem, reduceCtorEq, List.getElem?_map, hx, frgA, e1, e2, List.length_map]) ?_ | refine aM ?_ | refine aN ?_ | refine aR ?_); simp only [go_sem, reduceCtorEq, List.getElem?_map, hx, frgA, e1, e2, List.length_map]) | refine wT ?_ | refine wF ?_ | refine wC (fun h => ?_) (fun h => ?_) | refine iK ?_ | refine aI2 ?_ | (refine hK _ ?_; clear hK K) | clear hK K)
          refine AX.gcall [2, 3] rfl rfl (A) (by simp only [go_sem, reduceCtorEq, rnEs_rcE, n0, hw]) (by simp only [go_sem, reduceCtorEq, rnEs_rcE, n0, hw]) rfl rfl (by simp only [go_sem, Obj.owns]) rfl (by simp only [go_sem, Obj.owns]) rfl rfl ?_
          simp only [go_sem, reduceCtorEq, rnEs_rcE, n0, hw]
          clear A
          repeat' (first | refine W.seq fun K hK => ?_ | refine W.block ?_ | ((first | refine wR ?_ | refine wD ?_ | refine W.skip ?_ | refine W.exit ?_ | refine W.ret (Post.ret ?_) | refine aP ?_ | refine aF ?_ | refine aL ?_ | refine aU (hnn := by simp only [go_sem, reduceCtorEq, n0, hw]) ?_ | refine aM ?_ | refine aN ?_ | refine aR ?_); simp only [go_sem, reduceCtorEq, n0, hw]) | refine wT ?_ | refine wF ?_ | refine wC (fun h => ?_) (fun h => ?_) | refine iK ?_ | refine aI2 ?_ | (refine hK _ ?_; clear hK K) | clear hK K)
          refine hKM.to (i + 1, (addF r f.sp).1) ⟨by dsimp only; omega, hA⟩ (by dsimp only; omega) (Fits.fit [(0, 0), (1, 1), (2, 2), (3, 3), (4, 4)] [3, 8, 9, 10, 14] 5 rfl rfl ?_)
          simp only [go_sem, rnEs_rcE]
          exact Fits.rfl
        · obtain rfl : i = m.length := by omega
          have e1 : decide ((m.length : Int) < m.length) = false := by simp
          rw [List.take_length] at hr
          clear hKM NM
          have R2 := RM' hr
          rw [hset] at R2
          have E1 := equal38_c R1 R2
          have E2 := equal38_c R2 R1
          rw [eqSs_is, decide_eq_true rfl] at E1 E2
          clear RM' hset
          generalize r = r2 at *
          generalize setS (sentL l) = U at *
          generalize trsF (sentL l) = ks at *
          generalize ofS (sentL l) = og at *
          unfold asm2 at E1 E2
          repeat' (first | refine W.seq fun K hK => ?_ | refine W.block ?_ | ((first | refine wR ?_ | refine wD ?_ | refine W.skip ?_ | refine W.exit ?_ | refine W.ret (Post.ret ?_) | refine aP ?_ | refine aF ?_ | refine aL ?_ | refine aU (hnn := by simp only [go_sem, reduceCtorEq, e1, List.length_map]) ?_ | refine aM ?_ | refine aN ?_ | refine aR ?_); simp only [go_sem, reduceCtorEq, e1, List.length_map]) | refine wT ?_ | refine wF ?_ | refine wC (fun h => ?_) (fun h => ?_) | refine iK ?_ | refine aI2 ?_ | (refine hK _ ?_; clear hK K) | clear hK K)
          refine AX.gcall [0, 1] rfl rfl (D) (by simp only [go_sem, reduceCtorEq, rnEs_rcE]) (by simp only [go_sem, reduceCtorEq, rnEs_rcE]) rfl rfl (by simp only [go_sem, Obj.owns]) rfl (by simp only [go_sem, Obj.owns]) rfl rfl ?_
          simp only [go_sem, reduceCtorEq, rnEs_rcE]
          clear D e1
          repeat' (first | refine W.stop (id := 20) ?_ | refine W.seq fun K hK => ?_ | refine W.block ?_ | ((first | refine wR ?_ | refine wD ?_ | refine W.skip ?_ | refine W.exit ?_ | refine W.ret (Post.ret ?_) | refine aP ?_ | refine aF ?_ | refine aL ?_ | refine aU ?_ | refine aM ?_ | refine aN ?_ | refine aR ?_); simp only [go_sem, reduceCtorEq]) | refine wT ?_ | refine wF ?_ | refine wC (fun h => ?_) (fun h => ?_) | refine iK ?_ | refine aI2 ?_ | (refine hK _ ?_; clear hK K) | clear hK K)
          refine Stop.out ?_
          refine W.fits (s' := { t := [(3, .c (.ptr 4 0)), (9, .c (.ptr 0 0)), (10, .c (.ptr 2 0)), (17, .c (.ref 5)), (18, .c (.im (.sl 74 (ks.map fun k => [.flat (.int .i64 k), .flat (.int .i64 1), .sl 88 ((og k).map spA)]))))], h := [(0, .box 115 [.mp 1]), (1, .map 3 (rcE r1)), (2, .box 115 [.mp 3]), (3, .map 3 (rcE r2)), (4, .box 57 [.im (.sl 109 (s.ts.map treA)), fl (.int .i8 s.o1), fl (.int .i8 s.o2), fl (.int .i8 s.o3), fl (.int .i8 s.o4), .im (.sl 150 s.sy), fl (.int .u8 (s.wr : Nat))]), (5, .row 88 [])], nx := 6, ex := [], nt := 113 }) ?_ ?_
          · refine Fits.freeze 11 rfl (unim_im _) ?_
            refine Fits.seeT 18 11 rfl (.inl rfl) rfl ?_
            refine Fits.adopt 17 999 88 rfl rfl rfl tE88 rfl ?_
            refine Fits.fit [(0, 0), (1, 1), (2, 2), (3, 3), (4, 4), (999, 5)] [3, 9, 10, 17, 18] 6 rfl rfl ?_
            simp only [go_sem, rnEs_rcE]
            exact Fits.rfl
          repeat' (first | refine W.seq fun K hK => ?_ | refine W.block ?_ | ((first | refine wR ?_ | refine wD ?_ | refine W.skip ?_ | refine W.exit ?_ | refine W.ret (Post.ret ?_) | refine aP ?_ | refine aF ?_ | refine aL ?_ | refine aU ?_ | refine aM ?_ | refine aN ?_ | refine aR ?_); simp only [go_sem, reduceCtorEq]) | refine wT ?_ | refine wF ?_ | refine wC (fun h => ?_) (fun h => ?_) | refine iK ?_ | refine aI2 ?_ | (refine hK _ ?_; clear hK K) | clear hK K)
          refine W.loopF (T := fun i : Nat => { t := [(3, .c (.ptr 4 0)), (9, .c (.ptr 0 0)), (10, .c (.ptr 2 0)), (17, .c (.ref 5)), (18, .c (.im (.sl 74 (ks.map fun k => [.flat (.int .i64 k), .flat (.int .i64 1), .sl 88 ((og k).map spA)])))), (19, ft (.int .i64 (i : Nat)))], h := [(0, .box 115 [.mp 1]), (1, .map 3 (rcE r1)), (2, .box 115 [.mp 3]), (3, .map 3 (rcE r2)), (4, .box 57 [.im (.sl 109 (s.ts.map treA)), fl (.int .i8 s.o1), fl (.int .i8 s.o2), fl (.int .i8 s.o3), fl (.int .i8 s.o4), .im (.sl 150 s.sy), fl (.int .u8 (s.wr : Nat))]), (5, .row 88 (imR (((ks.take i).flatMap og).map spA)))], nx := 6, ex := [], nt := 113 })
            (Inv := fun i => i ≤ ks.length) (μ := fun i => ks.length - i) (x0 := 0) ?_ (Nat.zero_le _) ?_
          · refine Fits.fit [(0, 0), (1, 1), (2, 2), (3, 3), (4, 4), (5, 5)] [3, 9, 10, 17, 18, 19] 6 rfl rfl ?_
            simp only [go_sem, rnEs_rcE, List.take_zero, List.flatMap_nil, List.map_nil, imR_nil]
            exact Fits.rfl
          rintro i hi KN hKN
          by_cases hlt3 : i < ks.length
          · obtain ⟨k, hx, _, _⟩ := drop_at hlt3
            have e1 : decide ((i : Int) < ks.length) = true := by simp; omega
            have e2 : decide (i < ks.length) = true := by simp; omega
            have hw := w64s i (by omega)
            have hfi := hfa (i + 1)
            have hat : (ks.take (i + 1)).flatMap og = (ks.take i).flatMap og ++ og k := by rw [List.take_add_one, hx]; simp
            have hKN2 := fun (s' : St) h => hKN.to (s' := s') (i + 1) (by omega) (by omega) h
            rw [hat] at hKN2 hfi
            rw [List.length_append] at hfi
            have b1 : (((ks.take i).flatMap og).length + (og k).length) * 168 ≤ 140737488355328 := Nat.le_trans (Nat.mul_le_mul_right 168 hfi) (by decide)
            clear hKN hat hfa E1 E2 R1 R2 c40 Q1 Q2 hall hfi
            generalize (ks.take i).flatMap og = acc at *
            have hrow : imR (acc.map spA) ++ imR ((og k).map spA) = imR ((acc ++ og k).map spA) := by simp [imR]
            repeat' (first | refine W.seq fun K hK => ?_ | refine W.block ?_ | ((first | refine wR ?_ | refine wD ?_ | refine W.skip ?_ | refine W.exit ?_ | refine W.ret (Post.ret ?_) | refine aP ?_ | refine aF ?_ | refine aL ?_ | refine aU (hnn := by simp only [go_sem, reduceCtorEq, List.getElem?_map, hx, e1, e2, List.length_map, imR_len, hw, b1]) ?_ | refine aM ?_ | refine aN ?_ | refine aR ?_); simp only [go_sem, reduceCtorEq, List.getElem?_map, hx, e1, e2, List.length_map, imR_len, hw, b1]) | refine wT ?_ | refine wF ?_ | refine wC (fun h => ?_) (fun h => ?_) | refine iK ?_ | refine aI2 ?_ | (refine hK _ ?_; clear hK K) | clear hK K)
            refine hKN2 _ (Fits.fit [(0, 0), (1, 1), (2, 2), (3, 3), (4, 4), (16, 5)] [3, 9, 10, 17, 18, 19] 6 rfl rfl ?_)
            simp only [go_sem, rnEs_rcE, hrow]
            exact Fits.rfl
          · obtain rfl : i = ks.length := by omega
            have e1 : decide ((ks.length : Int) < ks.length) = false := by simp
            rw [List.take_length, hall]
            clear hKN hfa hall
            repeat' (first | refine W.stop (id := 24) ?_ | refine W.seq fun K hK => ?_ | refine W.block ?_ | ((first | refine wR ?_ | refine wD ?_ | refine W.skip ?_ | refine W.exit ?_ | refine W.ret (Post.ret ?_) | refine aP ?_ | refine aF ?_ | refine aL ?_ | refine aU (hnn := by simp only [go_sem, reduceCtorEq, e1, List.length_map]) ?_ | refine aM ?_ | refine aN ?_ | refine aR ?_); simp only [go_sem, reduceCtorEq, e1, List.length_map]) | refine wT ?_ | refine wF ?_ | refine wC (fun h => ?_) (fun h => ?_) | refine iK ?_ | refine aI2 ?_ | (refine hK _ ?_; clear hK K) | clear hK K)
            refine Stop.out ?_
            refine W.fits (s' := { t := [(3, .c (.ptr 4 0)), (9, .c (.ptr 0 0)), (10, .c (.ptr 2 0)), (17, spsT (finS s))], h := [(0, .box 115 [.mp 1]), (1, .map 3 (rcE r1)), (2, .box 115 [.mp 3]), (3, .map 3 (rcE r2)), (4, .box 57 [.im (.sl 109 (s.ts.map treA)), fl (.int .i8 s.o1), fl (.int .i8 s.o2), fl (.int .i8 s.o3), fl (.int .i8 s.o4), .im (.sl 150 s.sy), fl (.int .u8 (s.wr : Nat))])], nx := 5, ex := [], nt := 113 }) ?_ ?_
            · refine Fits.freeze 5 rfl (unim_im _) ?_
              refine Fits.seeT 17 5 rfl (.inl rfl) rfl ?_
              refine Fits.fit [(0, 0), (1, 1), (2, 2), (3, 3), (4, 4)] [3, 9, 10, 17] 5 rfl rfl ?_
              simp only [go_sem, rnEs_rcE]
              exact Fits.rfl
            clear e1
            repeat' (first | refine W.seq fun K hK => ?_ | refine W.block ?_ | ((first | refine wR ?_ | refine wD ?_ | refine W.skip ?_ | refine W.exit ?_ | refine W.ret (Post.ret ?_) | refine aP ?_ | refine aF ?_ | refine aL ?_ | refine aU ?_ | refine aM ?_ | refine aN ?_ | refine aR ?_); simp only [go_sem, reduceCtorEq]) | refine wT ?_ | refine wF ?_ | refine wC (fun h => ?_) (fun h => ?_) | refine iK ?_ | refine aI2 ?_ | (refine hK _ ?_; clear hK K) | clear hK K)
            refine AX.gcall [0, 1, 2, 3] rfl rfl (E1) (by simp only [go_sem, reduceCtorEq, rnEs_rcE]) (by simp only [go_sem, reduceCtorEq, rnEs_rcE]) rfl rfl (by simp only [go_sem, Obj.owns]) rfl (by simp only [go_sem, Obj.owns]) rfl rfl ?_
            simp only [go_sem, reduceCtorEq, rnEs_rcE]
            clear E1
            repeat' (first | refine W.seq fun K hK => ?_ | refine W.block ?_ | ((first | refine wR ?_ | refine wD ?_ | refine W.skip ?_ | refine W.exit ?_ | refine W.ret (Post.ret ?_) | refine aP ?_ | refine aF ?_ | refine aL ?_ | refine aU ?_ | refine aM ?_ | refine aN ?_ | refine aR ?_); simp only [go_sem, reduceCtorEq]) | refine wT ?_ | refine wF ?_ | refine wC (fun h => ?_) (fun h => ?_) | refine iK ?_ | refine aI2 ?_ | (refine hK _ ?_; clear hK K) | clear hK K)
            refine AX.gcall [2, 3, 0, 1] rfl rfl (E2) (by simp only [go_sem, reduceCtorEq, rnEs_rcE]) (by simp only [go_sem, reduceCtorEq, rnEs_rcE]) rfl rfl (by simp only [go_sem, Obj.owns]) rfl (by simp only [go_sem, Obj.owns]) rfl rfl ?_
            simp only [go_sem, reduceCtorEq, rnEs_rcE]
            clear E2
            repeat' (first | refine W.seq fun K hK => ?_ | refine W.block ?_ | ((first | refine wR ?_ | refine wD ?_ | refine W.skip ?_ | refine W.exit ?_ | refine W.ret (Post.ret ?_) | refine aP ?_ | refine aF ?_ | refine aL ?_ | refine aU ?_ | refine aM ?_ | refine aN ?_ | refine aR ?_); simp only [go_sem, reduceCtorEq]) | refine wT ?_ | refine wF ?_ | refine wC (fun h => ?_) (fun h => ?_) | refine iK ?_ | refine aI2 ?_ | (refine hK _ ?_; clear hK K) | clear hK K)
            refine AX.gcall [0, 1] rfl rfl (R1) (by simp only [go_sem, reduceCtorEq, rnEs_rcE]) (by simp only [go_sem, reduceCtorEq, rnEs_rcE]) rfl rfl (by simp only [go_sem, Obj.owns]) rfl (by simp only [go_sem, Obj.owns]) rfl rfl ?_
            simp only [go_sem, reduceCtorEq, rnEs_rcE]
            clear R1
            repeat' (first | refine W.seq fun K hK => ?_ | refine W.block ?_ | ((first | refine wR ?_ | refine wD ?_ | refine W.skip ?_ | refine W.exit ?_ | refine W.ret (Post.ret ?_) | refine aP ?_ | refine aF ?_ | refine aL ?_ | refine aU ?_ | refine aM ?_ | refine aN ?_ | refine aR ?_); simp only [go_sem, reduceCtorEq]) | refine wT ?_ | refine wF ?_ | refine wC (fun h => ?_) (fun h => ?_) | refine iK ?_ | refine aI2 ?_ | (refine hK _ ?_; clear hK K) | clear hK K)
            refine AX.gcall [2, 3] rfl rfl (R2) (by simp only [go_sem, reduceCtorEq, rnEs_rcE]) (by simp only [go_sem, reduceCtorEq, rnEs_rcE]) rfl rfl (by simp only [go_sem, Obj.owns]) rfl (by simp only [go_sem, Obj.owns]) rfl rfl ?_
            simp only [go_sem, reduceCtorEq, rnEs_rcE]
            clear R2
            repeat' (first | refine W.seq fun K hK => ?_ | refine W.block ?_ | ((first | refine wR ?_ | refine wD ?_ | refine W.skip ?_ | refine W.exit ?_ | refine W.ret (Post.ret ?_) | refine aP ?_ | refine aF ?_ | refine aL ?_ | refine aU ?_ | refine aM ?_ | refine aN ?_ | refine aR ?_); simp only [go_sem, reduceCtorEq]) | refine wT ?_ | refine wF ?_ | refine wC (fun h => ?_) (fun h => ?_) | refine iK ?_ | refine aI2 ?_ | (refine hK _ ?_; clear hK K) | clear hK K)
end Go.Proofs.YtigenjeealkdlaaGreat
namespace Go.Proofs.YtigenjeealkdlaaGreat
open Go.ChangeShapes Go.WideShapes Go.ChangeAt Go.RowKit Go.Exe
theorem Tryz.own : ownKnob Tryz.prog.godebug = none := by kernel_rfl
theorem Tryz.laidOut : laidOutB Tryz.prog = true := by kernel_rfl
/-! ### families that came in -/
end Go.Proofs.YtigenjeealkdlaaGreat
namespace Go.Proofs.YtigenjeealkdlaaGreat
open Go.ChangeShapes Go.WideShapes Go.ChangeAt Go.RowKit Go.Exe
/-! ### stories that came in -/
theorem i8_in {f : Nat} {xs : List AV} (h : Typ Tryz.prog (f + 1) 53 xs) : ∃ n : Int, i8 n ∧ xs = [.flat (.int .i8 n)] := by
  obtain ⟨n, rfl, h1, h2⟩ := Typ.int tU53 h
  simp [IntKind.min, IntKind.max, IntKind.signed, IntKind.bits] at h1 h2
  exact ⟨n, ⟨h1, h2⟩, rfl⟩
theorem cal_in {f : Nat} {xs : List AV} (h : Typ Tryz.prog (f + 2) 125 xs) : ∃ c : Cal, c.ok ∧ xs = calA c := by
  obtain ⟨parts, rfl, hp⟩ := Typ.st (ts := [5, 5, 5, 5, 5, 5, 5, 5, 5, 5, 4]) (by kernel_rfl) h
  match parts, hp with
  | [a0, a1, a2, a3, a4, a5, a6, a7, a8, a9, a10], hp =>
    simp only [Al.cons_iff] at hp
    obtain ⟨h0, h1, h2, h3, h4, h5, h6, h7, h8, h9, h10, _⟩ := hp
    obtain ⟨n0, rfl, b0⟩ := Typ.u8 tU5 h0
    obtain ⟨n1, rfl, b1⟩ := Typ.u8 tU5 h1
    obtain ⟨n2, rfl, b2⟩ := Typ.u8 tU5 h2
    obtain ⟨n3, rfl, b3⟩ := Typ.u8 tU5 h3
    obtain ⟨n4, rfl, b4⟩ := Typ.u8 tU5 h4
    obtain ⟨n5, rfl, b5⟩ := Typ.u8 tU5 h5
    obtain ⟨n6, rfl, b6⟩ := Typ.u8 tU5 h6
    obtain ⟨n7, rfl, b7⟩ := Typ.u8 tU5 h7
    obtain ⟨n8, rfl, b8⟩ := Typ.u8 tU5 h8
    obtain ⟨n9, rfl, b9⟩ := Typ.u8 tU5 h9
    obtain ⟨b, rfl⟩ := Typ.bool tU4 h10
    exact ⟨⟨n0, n1, n2, n3, n4, n5, n6, n7, n8, n9, b⟩, ⟨b0, b1, b2, b3, b4, b5, b6, b7, b8, b9⟩, rfl⟩
theorem syn_in {f : Nat} {xs : List AV} (h : Typ Tryz.prog (f + 2) 150 xs) : ∃ y : Syn, y.ok ∧ xs = synA y := by
  obtain ⟨parts, rfl, hp⟩ := Typ.st (ts := [5, 5, 5, 5, 5]) (by kernel_rfl) h
  match parts, hp with
  | [a0, a1, a2, a3, a4], hp =>
    simp only [Al.cons_iff] at hp
    obtain ⟨h0, h1, h2, h3, h4, _⟩ := hp
    obtain ⟨n0, rfl, b0⟩ := Typ.u8 tU5 h0
    obtain ⟨n1, rfl, b1⟩ := Typ.u8 tU5 h1
    obtain ⟨n2, rfl, b2⟩ := Typ.u8 tU5 h2
    obtain ⟨n3, rfl, b3⟩ := Typ.u8 tU5 h3
    obtain ⟨n4, rfl, b4⟩ := Typ.u8 tU5 h4
    exact ⟨⟨n0, n1, n2, n3, n4⟩, ⟨b0, b1, b2, b3, b4⟩, rfl⟩
theorem tre_in {f : Nat} {xs : List AV} (h : Typ Tryz.prog (f + 4) 109 xs) : ∃ t : Tre, t.okB ∧ xs = treA t := by
  obtain ⟨parts, rfl, hp⟩ := Typ.st (ts := [5, 5, 107]) (by kernel_rfl) h
  match parts, hp with
  | [a0, a1, a2], hp =>
    simp only [Al.cons_iff] at hp
    obtain ⟨h0, h1, h2, _⟩ := hp
    obtain ⟨n0, rfl, b0⟩ := Typ.u8 tU5 h0
    obtain ⟨n1, rfl, b1⟩ := Typ.u8 tU5 h1
    obtain ⟨rows, rfl, hr⟩ := Typ.sl tL107 h2
    obtain ⟨cs, hcs, rfl⟩ := rows_of (ok := Cal.ok) (enc := calA) fun r hr' => cal_in (hr r hr')
    exact ⟨⟨n0, n1, cs⟩, ⟨b0, b1, hcs⟩, rfl⟩
theorem sto_in {f : Nat} {xs : List AV} (h : Typ Tryz.prog (f + 6) 57 xs) : ∃ (s : Sto) (ys : List Syn), s.okB ∧ (∀ y ∈ ys, y.ok) ∧ s.sy = ys.map synA ∧ xs = stoA s := by
  obtain ⟨parts, rfl, hp⟩ := Typ.st (ts := [52, 54, 55, 5]) (by kernel_rfl) h
  match parts, hp with
  | [a0, a1, a2, a3], hp =>
    simp only [Al.cons_iff] at hp
    obtain ⟨h0, h1, h2, h3, _⟩ := hp
    obtain ⟨rows, rfl, hr⟩ := Typ.sl tL52 h0
    obtain ⟨ts, hts, rfl⟩ := rows_of (ok := Tre.okB) (enc := treA) fun r hr' => tre_in (hr r hr')
    obtain ⟨offs, rfl, hol, ho⟩ := Typ.arr (n := 4) (e := 53) (by kernel_rfl) h1
    obtain ⟨sy, rfl, hs⟩ := Typ.sl tL55 h2
    obtain ⟨ys, hys, rfl⟩ := rows_of (ok := Syn.ok) (enc := synA) fun r hr' => syn_in (f := f + 2) (hs r hr')
    obtain ⟨w, rfl, bw⟩ := Typ.u8 tU5 h3
    match offs, hol with
    | [q1, q2, q3, q4], _ =>
      obtain ⟨o1, c1, rfl⟩ := i8_in (ho q1 (by simp))
      obtain ⟨o2, c2, rfl⟩ := i8_in (ho q2 (by simp))
      obtain ⟨o3, c3, rfl⟩ := i8_in (ho q3 (by simp))
      obtain ⟨o4, c4, rfl⟩ := i8_in (ho q4 (by simp))
      exact ⟨⟨ts, o1, o2, o3, o4, ys.map synA, w⟩, ys, ⟨hts, c1, c2, c3, c4, bw⟩, hys, rfl, rfl⟩
theorem bys_in {f : Nat} {x : AV} (h : Typ Tryz.prog (f + 2) 58 [x]) : ∃ o : List Nat, (∀ b ∈ o, b < 256) ∧ x = .sl 5 (o.map byA) := by
  obtain ⟨rows, e, hr⟩ := Typ.sl tL58 h
  obtain ⟨o, ho, rfl⟩ := rows_of (ok := fun b => b < 256) (enc := byA) fun r hr' => by
    obtain ⟨n, rfl, b⟩ := Typ.u8 tU5 (hr r hr')
    exact ⟨n, b, rfl⟩
  exact ⟨o, ho, (List.cons.inj e).1⟩
end Go.Proofs.YtigenjeealkdlaaGreat
namespace Go.Proofs.YtigenjeealkdlaaGreat
open Go.ChangeShapes Go.WideShapes Go.ChangeAt Go.RowKit Go.Exe

theorem ordl_k5 {H : Type} {enc : TypeId × Value → H} {W W' : World} (hn : Below W.heap.size W W') {v d ps} (h : DataW.Trod enc Tryz.prog W 0 (fun _ => true) true 5 v d ps) (hl : ∀ x ∈ ps, x.block < W.heap.size) : DataW.Trod enc Tryz.prog W' 0 (fun b => decide (b < W.heap.size)) true 5 v d ps :=
  Below.trod Tryz.laidOut (by kernel_rfl) (of_decide_eq_true (by kernel_rfl)) h hn hl
theorem ordl_k57 {H : Type} {enc : TypeId × Value → H} {W W' : World} (hn : Below W.heap.size W W') {v d ps} (h : DataW.Trod enc Tryz.prog W 0 (fun _ => true) true 57 v d ps) (hl : ∀ x ∈ ps, x.block < W.heap.size) : DataW.Trod enc Tryz.prog W' 0 (fun b => decide (b < W.heap.size)) true 57 v d ps :=
  Below.trod Tryz.laidOut (by kernel_rfl) (of_decide_eq_true (by kernel_rfl)) h hn hl
theorem ordl_k58 {H : Type} {enc : TypeId × Value → H} {W W' : World} (hn : Below W.heap.size W W') {v d ps} (h : DataW.Trod enc Tryz.prog W 0 (fun _ => true) true 58 v d ps) (hl : ∀ x ∈ ps, x.block < W.heap.size) : DataW.Trod enc Tryz.prog W' 0 (fun b => decide (b < W.heap.size)) true 58 v d ps :=
  Below.trod Tryz.laidOut (by kernel_rfl) (of_decide_eq_true (by kernel_rfl)) h hn hl
end Go.Proofs.YtigenjeealkdlaaGreat
namespace Go.Proofs.YtigenjeealkdlaaGreat
open Go.ChangeShapes Go.WideShapes Go.ChangeAt Go.RowKit Go.Exe

def orderlessC : Prop := ∀ (x0 : List AV) (x1 : AV) (x2 : AV), Typ Tryz.prog 6 57 x0 → Typ Tryz.prog 6 5 [x1] → Typ Tryz.prog 6 58 [x2] → PCall Tryz.prog 8 [.g (x0.map .im), .c (.im x1), .c (.im x2)] (ft (.bool true))
theorem orderless_lifted (hc : orderlessC) (os : Os) (started : os.Started) (H : Type) (enc : TypeId × Value → H) :
    ReturnsInHanded {} Tryz.checked os 8 .any (Rows.assemblyOrderlessSpec.pre6 enc Tryz.prog Tryz.f8 Rows.assemblyOrderlessRow.domain false) (Rows.assemblyOrderlessSpec.post enc Tryz.prog Tryz.f8 false Rows.assemblyOrderlessRow.fresh Rows.assemblyOrderlessRow.handsOn Rows.assemblyOrderlessRow.again) := by
  refine returnsInHanded_of_change_sized (C := Tryz.checked) Tryz.own started (by kernel_rfl) Tryz.func8
    (ChangeSpec.witness6 (enc := enc) (C := Tryz.checked) false ⟨#[], #[.agg #[.slice none 0 0, .int .i8 0, .int .i8 0, .int .i8 0, .int .i8 0, .slice none 0 0, .int .u8 0], .int .u8 0, .slice none 0 0], []⟩ 8 (by kernel_rfl) (by kernel_rfl) (by kernel_rfl) (by kernel_rfl)) ?_
  intro W base args ds gs before hval0 hW _ hsz0 _
  have hsz : (DataW.weightsEach Tryz.prog (Tryz.f8.params.toList ++ Rows.assemblyOrderlessSpec.plain.varTypes Tryz.prog) (ds ++ gs)).all (· ≤ reachBytes) = true := hsz0
  clear hsz0
  have hval : ∀ (j : Nat) t v, Tryz.f8.params[j]? = some t → args[j]? = some v → Value.okWide Tryz.prog W .any base t v := hval0
  have hW' := hW
  obtain ⟨p, q, hA0, hV, rfl, hfz, hnd⟩ := hW
  have hA : DataW.TrodAll enc Tryz.prog W 0 (fun _ => true) true Tryz.f8.params.toList args.toList ds p := hA0
  rw [Tryz.params8] at hA hval hsz
  obtain ⟨v0, v1, v2, d0, d1, d2, p0, p1, p2, rfl, rfl, rfl, h0, h1, h2⟩ := trodAll_three hA
  obtain ⟨rfl, rfl⟩ := trodVars_none hV
  clear hA0 hval0
  simp only [List.append_nil] at hW'
  obtain ⟨x0, r0, y0⟩ := arg_g (j := 0) 6 (by kernel_rfl) (by obtain ⟨cs, hcs, _⟩ := okWide_struct rfl (hval 0 57 v0 rfl rfl); exact ⟨cs, hcs⟩) h0 hsz rfl rfl
  obtain ⟨x1, r1, y1⟩ := arg_c (j := 1) 6 (by kernel_rfl) (by obtain ⟨z, hz⟩ := okWide_int rfl (hval 1 5 v1 rfl rfl); rw [hz]; rfl) h1 hsz rfl rfl
  obtain ⟨x2, r2, y2⟩ := arg_c (j := 2) 6 (by kernel_rfl) (by obtain ⟨z1, z2, z3, hz⟩ := okWide_slice rfl (hval 2 58 v2 rfl rfl); rw [hz]; rfl) h2 hsz rfl rfl
  have hlt : ∀ x ∈ p0 ++ p1 ++ p2, x.block < W.heap.size := fun x hx => by simpa using hW'.lt x hx
  have hargs : ∀ (W' : World), Below W.heap.size W W' → DataW.TrodAll enc Tryz.prog W' 0 (fun b => decide (b < W.heap.size)) true Tryz.f8.params.toList [v0, v1, v2] [d0, d1, d2] (p0 ++ p1 ++ p2) := fun W' hn => by
    rw [Tryz.params8, List.append_assoc]
    exact trodAll_mk3 (ordl_k57 hn h0 fun x hx => hlt x (by simp [hx])) (ordl_k5 hn h1 fun x hx => hlt x (by simp [hx])) (ordl_k58 hn h2 fun x hx => hlt x (by simp [hx]))
  have hcall := (hc x0 x1 x2 y0 y1 y2).2 (fun _ => True) W [v0, v1, v2] (Al.cons r0 (Al.cons r1 (Al.cons r2 Al.nil)))
  refine hcall.mono fun e W' ⟨v, he, ⟨hB, _⟩, hr⟩ => ?_
  subst he
  obtain rfl : v = .bool true := RepA.flat_eq hr
  refine ⟨_, rfl, _, _, _, [], p0 ++ p1 ++ p2, [], hW', ?_, ?_, ?_, hB.frame _, fun h => by cases h⟩
  · exact trodAll_mk1 (shut_bool Tryz.underlying4 true)
  · exact hargs W' hB
  · rfl
theorem orderless_holds (hc : orderlessC) : Rows.AssemblyOrderlessSaid :=
  OpenClaim.holds_of_wide 8 Tryz.f8 rfl rfl rfl rfl rfl rfl rfl ⟨rfl, rfl, rfl, rfl, rfl⟩ rfl rfl rfl rfl rfl (by kernel_rfl) Tryz.func8 ord_joined
    (of_decide_eq_true (by kernel_rfl)) (by unfold Func.isWrapper; rw [if_neg (by decide +kernel)]; exact ⟨rfl, rfl⟩)
    (fun os started H enc _ => orderless_lifted hc os started H enc)
end Go.Proofs.YtigenjeealkdlaaGreat
namespace Go.Proofs.YtigenjeealkdlaaGreat
open Go.RowKit Go.Exe
theorem ytigenjeealkdlaagreat_assemblyOrderless_holds : Rows.AssemblyOrderlessSaid := orderless_holds fun x0 x1 x2 h0 h1 h2 => by
  obtain ⟨s, ys, hs, hy, hsy, rfl⟩ := sto_in (f := 0) h0
  obtain ⟨n, e, hn⟩ := Typ.u8 tU5 h1
  obtain ⟨o, ho, rfl⟩ := bys_in (f := 4) h2
  obtain rfl := (List.cons.inj e).1
  exact orderless_c sort144_c sort85_c grow84_c grow122_c s hs ys hy hsy n hn o ho
end Go.Proofs.YtigenjeealkdlaaGreat
