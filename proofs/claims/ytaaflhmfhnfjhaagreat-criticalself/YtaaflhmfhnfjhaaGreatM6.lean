import Derived.Test.YtaaflhmfhnfjhaaGreatM5
import Derived.Test.YtaaflhmfhnfjhaaGreatM3
import Derived.Test.YtaaflhmfhnfjhaaGreatM2
set_option linter.unusedVariables false
set_option linter.unusedSimpArgs false
set_option maxHeartbeats 8000000
set_option maxRecDepth 100000
namespace Go.Proofs.YtaaflhmfhnfjhaaGreat
open Go.RowKit Go.Exe
/-! ### stories -/
structure Cal where
  pa : Nat
  cl : Nat
  ki : Nat
  se : Nat
  ve : Nat
  op : Nat
  wa : Nat
  lo : Nat
  li : Nat
  ta : Nat
  fa : Bool
structure Tre where
  slot : Nat
  start : Nat
  cs : List Cal
structure Sto where
  ts : List Tre
  o1 : Int
  o2 : Int
  o3 : Int
  o4 : Int
  sy : List (List AV)
  wr : Nat
def Cal.ok (c : Cal) : Prop := c.pa < 256 ∧ c.cl < 256 ∧ c.ki < 256 ∧ c.se < 256 ∧ c.ve < 256 ∧ c.op < 256 ∧ c.wa < 256 ∧ c.lo < 256 ∧ c.li < 256 ∧ c.ta < 256
def i8 (n : Int) : Prop := -128 ≤ n ∧ n ≤ 127
def Tre.ok (t : Tre) : Prop := t.slot < 256 ∧ t.start < 256 ∧ (∀ c ∈ t.cs, c.ok) ∧ t.cs.length ≤ 8
def Sto.ok (s : Sto) : Prop := (∀ t ∈ s.ts, t.ok) ∧ i8 s.o1 ∧ i8 s.o2 ∧ i8 s.o3 ∧ i8 s.o4 ∧ s.wr < 256 ∧ s.ts.length ≤ 3
def calA (c : Cal) : List AV := [.flat (.int .u8 (c.pa : Nat)), .flat (.int .u8 (c.cl : Nat)), .flat (.int .u8 (c.ki : Nat)), .flat (.int .u8 (c.se : Nat)), .flat (.int .u8 (c.ve : Nat)), .flat (.int .u8 (c.op : Nat)), .flat (.int .u8 (c.wa : Nat)), .flat (.int .u8 (c.lo : Nat)), .flat (.int .u8 (c.li : Nat)), .flat (.int .u8 (c.ta : Nat)), .flat (.bool c.fa)]
def treA (t : Tre) : List AV := [.flat (.int .u8 (t.slot : Nat)), .flat (.int .u8 (t.start : Nat)), .sl 151 (t.cs.map calA)]
def stoA (s : Sto) : List AV := [.sl 88 (s.ts.map treA), .flat (.int .i8 s.o1), .flat (.int .i8 s.o2), .flat (.int .i8 s.o3), .flat (.int .i8 s.o4), .sl 233 s.sy, .flat (.int .u8 (s.wr : Nat))]
abbrev calT (c : Cal) : TV := .g ((calA c).map .im)
abbrev treT (t : Tre) : TV := .g ((treA t).map .im)
abbrev stoT (s : Sto) : TV := .g ((stoA s).map .im)
/-- The first m trees have at most 8 calls. -/
def shortT (s : Sto) (m : Nat) : Bool := (s.ts.take m).all fun t => decide (t.cs.length ≤ 8)
def shortS (s : Sto) : Bool := shortT s s.ts.length && decide (s.ts.length ≤ 3) && decide (s.sy.length ≤ 6)
def tidN (s : Sto) (k : Nat) : Nat := match s.ts[k]? with | some t => (t.slot % 64) * 1048576 + 1 + k | none => 0
def kdC (c : Cal) : Nat := 1 + c.ki % 5
def offC (s : Sto) (clk : Nat) : Int := Int.tmod (if clk = 1 then s.o1 else if clk = 2 then s.o2 else if clk = 3 then s.o3 else s.o4) 21
/-! ### remainders of bytes -/
theorem tm (a b : Nat) : Int.tmod (a : Int) (b : Int) = ((a % b : Nat) : Int) := by
  rw [Int.tmod_eq_emod_of_nonneg (by omega)]; rfl
theorem td (a b : Nat) : Int.tdiv (a : Int) (b : Int) = ((a / b : Nat) : Int) := rfl
theorem tm2 (a : Nat) : Int.tmod (a : Int) 2 = ((a % 2 : Nat) : Int) := tm a 2
theorem tm3 (a : Nat) : Int.tmod (a : Int) 3 = ((a % 3 : Nat) : Int) := tm a 3
theorem tm4 (a : Nat) : Int.tmod (a : Int) 4 = ((a % 4 : Nat) : Int) := tm a 4
theorem tm5 (a : Nat) : Int.tmod (a : Int) 5 = ((a % 5 : Nat) : Int) := tm a 5
theorem tm8 (a : Nat) : Int.tmod (a : Int) 8 = ((a % 8 : Nat) : Int) := tm a 8
theorem tm16 (a : Nat) : Int.tmod (a : Int) 16 = ((a % 16 : Nat) : Int) := tm a 16
theorem tm32 (a : Nat) : Int.tmod (a : Int) 32 = ((a % 32 : Nat) : Int) := tm a 32
theorem tm64 (a : Nat) : Int.tmod (a : Int) 64 = ((a % 64 : Nat) : Int) := tm a 64
theorem td4 (a : Nat) : Int.tdiv (a : Int) 4 = ((a / 4 : Nat) : Int) := td a 4
theorem td8 (a : Nat) : Int.tdiv (a : Int) 8 = ((a / 8 : Nat) : Int) := td a 8
theorem w64n (a : Nat) (h : a < 9223372036854775808) : IntKind.i64.wrap (a : Int) = (a : Int) := w64 (by omega) (by omega)
theorem w8n (a : Nat) (h : a < 256) : IntKind.u8.wrap (a : Int) = (a : Int) := by
  unfold IntKind.wrap; simp [IntKind.signed, IntKind.bits]; omega
attribute [local irreducible] W AX Run RunD AStep AOp AOpX AStB AStH AStG Fits PCall GCall PostG Post Stop
theorem short_c (s : Sto) : PCall Tryz.prog 32 [stoT s] (ft (.bool (shortS s))) := by
  simp only [stoT, stoA, List.map]
  refine PCall.intro (nt := 29) (rs := [.tmp 2]) Tryz.func32 rfl ⟨by kernel_rfl, by kernel_rfl, by kernel_rfl⟩ (by simp) ?_
  rintro ⟨P, w0, ok0, may, np, pblk⟩ rfl rfl
  repeat' (first | refine W.stop (id := 1) ?_ | refine W.seq fun K hK => ?_ | refine W.block ?_ | ((first | refine wR ?_ | refine wD ?_ | refine W.skip ?_ | refine W.exit ?_ | refine W.ret (Post.ret ?_) | refine aP ?_ | refine aF ?_); simp only [go_sem, reduceCtorEq]) | refine wT ?_ | refine wF ?_ | refine wC (fun h => ?_) (fun h => ?_) | refine iK ?_ | refine aI2 ?_ | (refine hK _ ?_; clear hK K) | clear hK K)
  refine Stop.out ?_
  refine W.lenX 0 0 rfl rfl tE88 fun hlen hbytes => ?_
  rw [maxLen_is] at hlen
  simp only [List.length_map] at hlen
  repeat' (first | refine W.seq fun K hK => ?_ | refine W.block ?_ | ((first | refine wR ?_ | refine wD ?_ | refine W.skip ?_ | refine W.exit ?_ | refine W.ret (Post.ret ?_) | refine aP ?_ | refine aF ?_); simp only [go_sem, reduceCtorEq]) | refine wT ?_ | refine wF ?_ | refine wC (fun h => ?_) (fun h => ?_) | refine iK ?_ | refine aI2 ?_ | (refine hK _ ?_; clear hK K) | clear hK K)
  refine W.loopF (T := fun i : Nat => { t := [(1, .c (.ptr 0 0)), (2, ft (.bool false)), (3, ft (.int .i64 (i : Nat)))], h := [(0, .box 27 ((stoA s).map .im))], nx := 1, ex := [], nt := 29 })
    (Inv := fun i => i ≤ s.ts.length ∧ shortT s i = true) (μ := fun i => s.ts.length - i) (x0 := 0) (Fits.fit [(0, 0)] [1, 2, 3] 1 rfl rfl Fits.rfl) ⟨Nat.zero_le _, by simp [shortT]⟩ ?_
  rintro i ⟨hi, hv⟩ KL hKL
  by_cases hlt : i < s.ts.length
  · obtain ⟨x, hx, hm, hd⟩ := drop_at hlt
    have e1 : decide ((i : Int) < s.ts.length) = true := by simp; omega
    have hw := w64s i (by omega)
    have hT : shortT s (i + 1) = (shortT s i && decide (x.cs.length ≤ 8)) := by simp [shortT, List.take_add_one, hx]
    cases h8 : decide ((x.cs.length : Int) > 8) with
    | true =>
      have hf : shortS s = false := by
        have : shortT s s.ts.length = false := by
          simp only [shortT, List.take_length, List.all_eq_false]
          exact ⟨x, hm, by simp at h8 ⊢; omega⟩
        simp [shortS, this]
      rw [hf]
      clear hKL
      simp only [stoA, List.map]
      repeat' (first | refine W.seq fun K hK => ?_ | refine W.block ?_ | ((first | refine wR ?_ | refine wD ?_ | refine W.skip ?_ | refine W.exit ?_ | refine W.ret (Post.ret ?_) | refine aP ?_ | refine aF ?_); simp only [go_sem, reduceCtorEq, List.getElem?_map, hx, treA, e1, hw, List.length_map, h8]) | refine wT ?_ | refine wF ?_ | refine wC (fun h => ?_) (fun h => ?_) | refine iK ?_ | refine aI2 ?_ | (refine hK _ ?_; clear hK K) | clear hK K)
    | false =>
      simp only [stoA, List.map] at hKL ⊢
      repeat' (first | refine W.seq fun K hK => ?_ | refine W.block ?_ | ((first | refine wR ?_ | refine wD ?_ | refine W.skip ?_ | refine W.exit ?_ | refine W.ret (Post.ret ?_) | refine aP ?_ | refine aF ?_); simp only [go_sem, reduceCtorEq, List.getElem?_map, hx, treA, e1, hw, List.length_map, h8]) | refine wT ?_ | refine wF ?_ | refine wC (fun h => ?_) (fun h => ?_) | refine iK ?_ | refine aI2 ?_ | (refine hK _ ?_; clear hK K) | clear hK K)
      refine hKL.to (i + 1) ⟨by omega, by rw [hT, hv]; simp at h8 ⊢; omega⟩ (by omega) (Fits.fit [(0, 0)] [1, 2, 3] 1 rfl rfl Fits.rfl)
  · obtain rfl : i = s.ts.length := by omega
    have e1 : decide ((s.ts.length : Int) < s.ts.length) = false := by simp
    clear hKL
    simp only [stoA, List.map]
    have e2 : decide ((s.ts.length : Int) ≤ 3) = decide (s.ts.length ≤ 3) := by congr 1; simp; omega
    have e3 : decide ((s.sy.length : Int) ≤ 6) = decide (s.sy.length ≤ 6) := by congr 1; simp; omega
    have hS : shortS s = (decide (s.ts.length ≤ 3) && decide (s.sy.length ≤ 6)) := by simp [shortS, hv]
    cases h3 : decide (s.ts.length ≤ 3) <;> (rw [h3] at e2 hS)
    · rw [Bool.false_and] at hS
      repeat' (first | refine W.seq fun K hK => ?_ | refine W.block ?_ | ((first | refine wR ?_ | refine wD ?_ | refine W.skip ?_ | refine W.exit ?_ | refine W.ret (Post.ret ?_) | refine aP ?_ | refine aF ?_); simp only [go_sem, reduceCtorEq, e1, List.length_map, e2, hS]) | refine wT ?_ | refine wF ?_ | refine wC (fun h => ?_) (fun h => ?_) | refine iK ?_ | refine aI2 ?_ | (refine hK _ ?_; clear hK K) | clear hK K)
    · rw [Bool.true_and] at hS
      repeat' (first | refine W.seq fun K hK => ?_ | refine W.block ?_ | ((first | refine wR ?_ | refine wD ?_ | refine W.skip ?_ | refine W.exit ?_ | refine W.ret (Post.ret ?_) | refine aP ?_ | refine aF ?_); simp only [go_sem, reduceCtorEq, e1, List.length_map, e2, e3, hS]) | refine wT ?_ | refine wF ?_ | refine wC (fun h => ?_) (fun h => ?_) | refine iK ?_ | refine aI2 ?_ | (refine hK _ ?_; clear hK K) | clear hK K)
theorem tid_c (s : Sto) (hs : s.ok) (k : Nat) (hk : k < s.ts.length) : PCall Tryz.prog 77 [stoT s, ft (.int .i64 (k : Nat))] (ft (.int .i64 (tidN s k : Nat))) := by
  obtain ⟨t, hx, hm, hd⟩ := drop_at hk
  have hl := hs.2.2.2.2.2.2
  have q1 := w64n (t.slot % 64) (by omega)
  have q2 : IntKind.i64.wrap (((t.slot % 64 : Nat) : Int) * 2 ^ min (Int.toNat 20) 64) = (((t.slot % 64) * 1048576 : Nat) : Int) := by rw [show (((t.slot % 64 : Nat) : Int) * 2 ^ min (Int.toNat 20) 64) = (((t.slot % 64) * 1048576 : Nat) : Int) by rw [Int.natCast_mul]; rfl]; exact w64n _ (by omega)
  have q3 : IntKind.i64.wrap ((((t.slot % 64) * 1048576 : Nat) : Int) + 1) = (((t.slot % 64) * 1048576 + 1 : Nat) : Int) := w64n ((t.slot % 64) * 1048576 + 1) (by omega)
  have q4 : IntKind.i64.wrap ((((t.slot % 64) * 1048576 + 1 : Nat) : Int) + (k : Nat)) = (((t.slot % 64) * 1048576 + 1 + k : Nat) : Int) := w64n ((t.slot % 64) * 1048576 + 1 + k) (by have := Nat.mod_lt t.slot (show 0 < 64 by omega); omega)
  have e1 : tidN s k = (t.slot % 64) * 1048576 + 1 + k := by simp [tidN, hx]
  rw [e1]
  simp only [stoT, stoA, List.map]
  refine PCall.intro (nt := 17) (rs := [.tmp 4]) Tryz.func77 rfl ⟨by kernel_rfl, by kernel_rfl, by kernel_rfl⟩ (by simp) ?_
  rintro ⟨P, w0, ok0, may, np, pblk⟩ rfl rfl
  repeat' (first | refine W.seq fun K hK => ?_ | refine W.block ?_ | ((first | refine wR ?_ | refine wD ?_ | refine W.skip ?_ | refine W.exit ?_ | refine W.ret (Post.ret ?_) | refine aP ?_ | refine aF ?_ | refine aI ?_); simp only [go_sem, reduceCtorEq, List.getElem?_map, hx, treA, tm64, q1, q2, q3, q4]) | refine wT ?_ | refine wF ?_ | refine wC (fun h => ?_) (fun h => ?_) | refine iK ?_ | refine aI2 ?_ | (refine hK _ ?_; clear hK K) | clear hK K)
theorem kind_c (c : Cal) : PCall Tryz.prog 76 [calT c] (ft (.int .i64 (kdC c : Nat))) := by
  have q1 := w64n (c.ki % 5) (by omega)
  have q2 : IntKind.i64.wrap (1 + ((c.ki % 5 : Nat) : Int)) = (kdC c : Nat) := w64n (1 + c.ki % 5) (by omega)
  simp only [calT, calA, List.map]
  refine PCall.intro (nt := 8) (rs := [.tmp 2]) Tryz.func76 rfl ⟨by kernel_rfl, by kernel_rfl, by kernel_rfl⟩ (by simp) ?_
  rintro ⟨P, w0, ok0, may, np, pblk⟩ rfl rfl
  repeat' (first | refine W.seq fun K hK => ?_ | refine W.block ?_ | ((first | refine wR ?_ | refine wD ?_ | refine W.skip ?_ | refine W.exit ?_ | refine W.ret (Post.ret ?_) | refine aP ?_ | refine aF ?_); simp only [go_sem, reduceCtorEq, tm5, q1, q2]) | refine wT ?_ | refine wF ?_ | refine wC (fun h => ?_) (fun h => ?_) | refine iK ?_ | refine aI2 ?_ | (refine hK _ ?_; clear hK K) | clear hK K)
theorem off_c (s : Sto) (hs : s.ok) (clk : Nat) (h1 : 1 ≤ clk) (h4 : clk ≤ 4) : PCall Tryz.prog 25 [stoT s, ft (.int .i64 (clk : Nat))] (ft (.int .i64 (offC s clk))) := by
  have hA : Tryz.prog.underlying 24 = some (.array 4 23) := by kernel_rfl
  have hE := tE23
  simp only [stoT, stoA, List.map]
  have g : ∀ n : Int, i8 n → IntKind.i64.wrap n = n := fun n hn => w64 (by unfold i8 at hn; omega) (by unfold i8 at hn; omega)
  obtain ⟨_, g1, g2, g3, g4, _⟩ := hs
  have g1 := g _ g1
  have g2 := g _ g2
  have g3 := g _ g3
  have g4 := g _ g4
  clear g
  rcases (by omega : clk = 1 ∨ clk = 2 ∨ clk = 3 ∨ clk = 4) with rfl | rfl | rfl | rfl
  ·
    have hN : EL Tryz.prog 24 = none := by kernel_rfl
    have hm : Int.tmod (IntKind.u64.wrap (IntKind.u64.wrap ((1 : Nat) : Int) + 3)) 4 = 0 := by decide
    have hx : 1 + Int.toNat 0 * 1 = 1 := (rfl)
    have ho : offC s 1 = Int.tmod s.o1 21 := rfl
    refine PCall.intro (nt := 14) (rs := [.tmp 4]) Tryz.func25 rfl ⟨by kernel_rfl, by kernel_rfl, by kernel_rfl⟩ (by simp) ?_
    rintro ⟨P, w0, ok0, may, np, pblk⟩ rfl rfl
    repeat' (first | refine W.seq fun K hK => ?_ | refine W.block ?_ | ((first | refine wR ?_ | refine wD ?_ | refine W.skip ?_ | refine W.exit ?_ | refine W.ret (Post.ret ?_) | refine aP ?_ | refine aF ?_ | refine aV ?_); simp only [go_sem, reduceCtorEq, ho, g1, g2, g3, g4, hm, hN, hx]) | refine wT ?_ | refine wF ?_ | refine wC (fun h => ?_) (fun h => ?_) | refine iK ?_ | refine aI2 ?_ | (refine hK _ ?_; clear hK K) | clear hK K)
  ·
    have hN : EL Tryz.prog 24 = none := by kernel_rfl
    have hm : Int.tmod (IntKind.u64.wrap (IntKind.u64.wrap ((2 : Nat) : Int) + 3)) 4 = 1 := by decide
    have hx : 1 + Int.toNat 1 * 1 = 2 := (rfl)
    have ho : offC s 2 = Int.tmod s.o2 21 := rfl
    refine PCall.intro (nt := 14) (rs := [.tmp 4]) Tryz.func25 rfl ⟨by kernel_rfl, by kernel_rfl, by kernel_rfl⟩ (by simp) ?_
    rintro ⟨P, w0, ok0, may, np, pblk⟩ rfl rfl
    repeat' (first | refine W.seq fun K hK => ?_ | refine W.block ?_ | ((first | refine wR ?_ | refine wD ?_ | refine W.skip ?_ | refine W.exit ?_ | refine W.ret (Post.ret ?_) | refine aP ?_ | refine aF ?_ | refine aV ?_); simp only [go_sem, reduceCtorEq, ho, g1, g2, g3, g4, hm, hN, hx]) | refine wT ?_ | refine wF ?_ | refine wC (fun h => ?_) (fun h => ?_) | refine iK ?_ | refine aI2 ?_ | (refine hK _ ?_; clear hK K) | clear hK K)
  ·
    have hN : EL Tryz.prog 24 = none := by kernel_rfl
    have hm : Int.tmod (IntKind.u64.wrap (IntKind.u64.wrap ((3 : Nat) : Int) + 3)) 4 = 2 := by decide
    have hx : 1 + Int.toNat 2 * 1 = 3 := (rfl)
    have ho : offC s 3 = Int.tmod s.o3 21 := rfl
    refine PCall.intro (nt := 14) (rs := [.tmp 4]) Tryz.func25 rfl ⟨by kernel_rfl, by kernel_rfl, by kernel_rfl⟩ (by simp) ?_
    rintro ⟨P, w0, ok0, may, np, pblk⟩ rfl rfl
    repeat' (first | refine W.seq fun K hK => ?_ | refine W.block ?_ | ((first | refine wR ?_ | refine wD ?_ | refine W.skip ?_ | refine W.exit ?_ | refine W.ret (Post.ret ?_) | refine aP ?_ | refine aF ?_ | refine aV ?_); simp only [go_sem, reduceCtorEq, ho, g1, g2, g3, g4, hm, hN, hx]) | refine wT ?_ | refine wF ?_ | refine wC (fun h => ?_) (fun h => ?_) | refine iK ?_ | refine aI2 ?_ | (refine hK _ ?_; clear hK K) | clear hK K)
  ·
    have hN : EL Tryz.prog 24 = none := by kernel_rfl
    have hm : Int.tmod (IntKind.u64.wrap (IntKind.u64.wrap ((4 : Nat) : Int) + 3)) 4 = 3 := by decide
    have hx : 1 + Int.toNat 3 * 1 = 4 := (rfl)
    have ho : offC s 4 = Int.tmod s.o4 21 := rfl
    refine PCall.intro (nt := 14) (rs := [.tmp 4]) Tryz.func25 rfl ⟨by kernel_rfl, by kernel_rfl, by kernel_rfl⟩ (by simp) ?_
    rintro ⟨P, w0, ok0, may, np, pblk⟩ rfl rfl
    repeat' (first | refine W.seq fun K hK => ?_ | refine W.block ?_ | ((first | refine wR ?_ | refine wD ?_ | refine W.skip ?_ | refine W.exit ?_ | refine W.ret (Post.ret ?_) | refine aP ?_ | refine aF ?_ | refine aV ?_); simp only [go_sem, reduceCtorEq, ho, g1, g2, g3, g4, hm, hN, hx]) | refine wT ?_ | refine wF ?_ | refine wC (fun h => ?_) (fun h => ?_) | refine iK ?_ | refine aI2 ?_ | (refine hK _ ?_; clear hK K) | clear hK K)
end Go.Proofs.YtaaflhmfhnfjhaaGreat
namespace Go.Proofs.YtaaflhmfhnfjhaaGreat
open Go.RowKit Go.Exe
def zoneS (n : Nat) : ByteArray := if n = 0 then ⟨#[97]⟩ else if n = 1 then ⟨#[98]⟩ else ⟨#[119, 101, 115, 116, 32, 49]⟩
def attsC (c : Cal) : List Att := [⟨⟨#[111, 107]⟩, 3, .empty, ((c.ta / 4 % 2 : Nat) : Int)⟩, ⟨⟨#[115, 105, 122, 101]⟩, 2, .empty, (c.ta : Int) - 100⟩, ⟨⟨#[122, 111, 110, 101]⟩, 1, zoneS (c.ta / 8 % 3), 0⟩].take (c.ta % 4)
attribute [local irreducible] W AX Run RunD AStep AOp AOpX AStB AStH AStG Fits PCall GCall PostG Post Stop
theorem attrs_c (c : Cal) (hc : c.ok) : PCall Tryz.prog 78 [calT c] (.c (.im (.sl 177 ((attsC c).map attA)))) := by
  have hta : c.ta < 256 := hc.2.2.2.2.2.2.2.2.2
  have q1 := w64n (c.ta / 4 % 2) (by omega)
  have q2 := w64n c.ta (by omega)
  have q4 := w8n (c.ta / 4) (by omega)
  have q5 := w8n (c.ta / 8) (by omega)
  have q3 : IntKind.i64.wrap ((c.ta : Int) - 100) = (c.ta : Int) - 100 := w64 (by omega) (by omega)
  have s1 : ([[.im (.flat (.string ⟨#[97]⟩))], [.im (.flat (.string ⟨#[98]⟩))], [.im (.flat (.string ⟨#[119, 101, 115, 116, 32, 49]⟩))]] : List (List Cell))[c.ta / 8 % 3]? = some [.im (.flat (.string (zoneS (c.ta / 8 % 3))))] := by
    rcases (by omega : c.ta / 8 % 3 = 0 ∨ c.ta / 8 % 3 = 1 ∨ c.ta / 8 % 3 = 2) with h | h | h <;> simp [h, zoneS]
  have d1 : decide (c.ta / 8 % 3 < 3) = true := by simp; omega
  simp only [calT, calA, List.map]
  rcases (by omega : c.ta % 4 = 0 ∨ c.ta % 4 = 1 ∨ c.ta % 4 = 2 ∨ c.ta % 4 = 3) with h | h | h | h
  all_goals
    simp only [attsC, h, List.take_succ_cons, List.take_zero, List.map_cons, List.map_nil, attA]
    refine PCall.intro (nt := 32) (rs := [.tmp 2]) Tryz.func78 rfl ⟨by kernel_rfl, by kernel_rfl, by kernel_rfl⟩ (by simp) ?_
    rintro ⟨P, w0, ok0, may, np, pblk⟩ rfl rfl
    repeat' (first | refine W.seq fun K hK => ?_ | refine W.block ?_ | ((first | refine wR ?_ | refine wD ?_ | refine W.skip ?_ | refine W.exit ?_ | refine W.ret (Post.ret ?_) | refine aP ?_ | refine aF ?_); simp only [go_sem, reduceCtorEq, td4, td8, tm2, tm3, tm4, q1, q2, q3, q4, q5, s1, d1, h]) | refine wT ?_ | refine wF ?_ | refine wC (fun h => ?_) (fun h => ?_) | refine iK ?_ | refine aI2 ?_ | (refine hK _ ?_; clear hK K) | clear hK K)
end Go.Proofs.YtaaflhmfhnfjhaaGreat
namespace Go.Proofs.YtaaflhmfhnfjhaaGreat
open Go.RowKit Go.Exe
def nA (n : Nat) : List AV := [.flat (.int .i64 (n : Nat))]
abbrev natsT (l : List Nat) : TV := .c (.im (.sl 3 (l.map nA)))
/-- The true start of the call with an index, if those before it are known. -/
def frm (t : Tre) (c : Cal) (i : Nat) (st : List Nat) : Nat := (if c.pa % (i + 1) < i then st.getD (c.pa % (i + 1)) 0 else 1000 + t.start % 32) + (if 0 < i then c.wa % 32 else 0)
def stF (t : Tre) : Nat → List Nat
  | 0 => []
  | i + 1 => stF t i ++ (t.cs[i]?.toList.map fun c => frm t c i (stF t i))
def enF (t : Tre) : Nat → List Nat
  | 0 => []
  | i + 1 => enF t i ++ (t.cs[i]?.toList.map fun c => frm t c i (stF t i) + c.lo % 32)
theorem stF_at {t : Tre} {i : Nat} {c : Cal} (h : t.cs[i]? = some c) : stF t (i + 1) = stF t i ++ [frm t c i (stF t i)] := by simp [stF, h]
theorem enF_at {t : Tre} {i : Nat} {c : Cal} (h : t.cs[i]? = some c) : enF t (i + 1) = enF t i ++ [frm t c i (stF t i) + c.lo % 32] := by simp [enF, h]
theorem stF_len (t : Tre) : ∀ i, i ≤ t.cs.length → (stF t i).length = i
  | 0, _ => rfl
  | i + 1, h => by simp [stF, stF_len t i (by omega), List.getElem?_eq_getElem (show i < t.cs.length by omega)]
theorem enF_len (t : Tre) : ∀ i, i ≤ t.cs.length → (enF t i).length = i
  | 0, _ => rfl
  | i + 1, h => by simp [enF, enF_len t i (by omega), List.getElem?_eq_getElem (show i < t.cs.length by omega)]
theorem stF_le (t : Tre) : ∀ i, i ≤ t.cs.length → ∀ x ∈ stF t i, x ≤ 1031 + 31 * i
  | 0, _, x, hx => by simp [stF] at hx
  | i + 1, h, x, hx => by
    have ih := stF_le t i (by omega)
    rw [stF_at (List.getElem?_eq_getElem (show i < t.cs.length by omega))] at hx
    rcases List.mem_append.1 hx with hx | hx
    · have := ih x hx; omega
    · simp only [List.mem_singleton] at hx
      subst hx
      unfold frm
      have h1 : (stF t i).getD (t.cs[i].pa % (i + 1)) 0 ≤ 1031 + 31 * i := by
        rw [List.getD_eq_getElem?_getD]
        cases e : (stF t i)[t.cs[i].pa % (i + 1)]? with
        | none => simp
        | some y => exact ih y (List.mem_of_getElem? e)
      repeat' split
      all_goals omega
theorem enF_le (t : Tre) : ∀ i, i ≤ t.cs.length → ∀ x ∈ enF t i, x ≤ 1062 + 31 * i
  | 0, _, x, hx => by simp [enF] at hx
  | i + 1, h, x, hx => by
    have hc := List.getElem?_eq_getElem (show i < t.cs.length by omega)
    rw [enF_at hc] at hx
    rcases List.mem_append.1 hx with hx | hx
    · have := enF_le t i (by omega) x hx; omega
    · simp only [List.mem_singleton] at hx
      have := stF_le t (i + 1) h (frm t t.cs[i] i (stF t i)) (by rw [stF_at hc]; simp)
      omega
/-- A client without an error waits for its servers. -/
def waits (t : Tre) (i : Nat) : Bool := match t.cs[i]? with
  | some c => (match t.cs[c.pa % (i + 1)]? with
    | some d => decide (c.pa % (i + 1) < i) && decide (kdC c = 3) && decide (kdC d = 2) && !d.fa
    | none => false)
  | none => false
def parN (t : Tre) (i : Nat) : Nat := match t.cs[i]? with | some c => c.pa % (i + 1) | none => 0
def stepE (t : Tre) (L : List Nat) (i : Nat) : List Nat := if waits t i then L.set (parN t i) (max (L.getD (parN t i) 0) (L.getD i 0)) else L
def enG (t : Tre) : Nat → List Nat → List Nat
  | 0, L => L
  | i + 1, L => enG t i (stepE t L (i + 1))
def stL (t : Tre) : List Nat := stF t t.cs.length
def enL (t : Tre) : List Nat := enG t (t.cs.length - 1) (enF t t.cs.length)
theorem wadd (a b : Nat) (h : a + b < 9223372036854775808) : IntKind.i64.wrap ((a : Int) + (b : Int)) = ((a + b : Nat) : Int) := by rw [← Int.natCast_add]; exact w64n _ h
attribute [local irreducible] W AX Run RunD AStep AOp AOpX AStB AStH AStG Fits PCall GCall PostG Post Stop
theorem times_c (t : Tre) (ht : t.ok) (h0 : 0 < t.cs.length) : PCall Tryz.prog 56 [treT t] (.t [(false, [.im (.sl 3 ((stL t).map nA))]), (false, [.im (.sl 3 ((enL t).map nA))])]) := by
  have h8 := ht.2.2.2
  have ck := kind_c
  simp only [treT, treA, List.map]
  refine PCall.intro (nt := 123) (rs := [.tmp 2, .tmp 3]) Tryz.func56 rfl ⟨by kernel_rfl, by kernel_rfl, by kernel_rfl⟩ (by simp) ?_
  rintro ⟨P, w0, ok0, may, np, pblk⟩ rfl rfl
  repeat' (first | refine W.seq fun K hK => ?_ | refine W.block ?_ | ((first | refine wR ?_ | refine wD ?_ | refine W.skip ?_ | refine W.exit ?_ | refine W.ret (Post.ret ?_) | refine aP ?_ | refine aF ?_); simp only [go_sem, reduceCtorEq]) | refine wT ?_ | refine wF ?_ | refine wC (fun h => ?_) (fun h => ?_) | refine iK ?_ | refine aI2 ?_ | (refine hK _ ?_; clear hK K) | clear hK K)
  refine W.loopF (T := fun i : Nat => { t := [(1, .c (.ptr 0 0)), (2, .c (.ref 1)), (3, .c (.ref 2)), (4, ft (.int .i64 (i : Nat)))], h := [(0, .box 88 ((treA t).map .im)), (1, .row 3 (imR ((stF t i).map nA))), (2, .row 3 (imR ((enF t i).map nA)))], nx := 3, ex := [], nt := 123 })
    (Inv := fun i => i ≤ t.cs.length) (μ := fun i => t.cs.length - i) (x0 := 0) ?_ (Nat.zero_le _) ?_
  · refine Fits.adopt 2 98 3 rfl rfl rfl tE3 rfl ?_
    refine Fits.adopt 3 99 3 rfl rfl rfl tE3 rfl ?_
    refine Fits.fit [(0, 0), (98, 1), (99, 2)] [1, 2, 3, 4] 3 rfl rfl ?_
    simp only [go_sem, stF, enF, List.map_nil, imR_nil]
    exact Fits.rfl
  rintro i hi KL hKL
  by_cases hlt : i < t.cs.length
  · obtain ⟨x, hx, hm, hd⟩ := drop_at hlt
    have hxo := ht.2.2.1 x hm
    obtain ⟨b1, b2, b3, b4, b5, b6, b7, b8, b9, b10⟩ := hxo
    have e1 : decide ((i : Int) < t.cs.length) = true := by simp; omega
    have hw := w64s i (by omega)
    have q1 := w64n (t.start % 32) (by omega)
    have q2 : IntKind.i64.wrap (1000 + ((t.start % 32 : Nat) : Int)) = ((1000 + t.start % 32 : Nat) : Int) := wadd 1000 (t.start % 32) (by omega)
    have q3 := w64n x.pa (by omega)
    have q4 : Int.tmod (x.pa : Int) ((i + 1 : Nat) : Int) = ((x.pa % (i + 1) : Nat) : Int) := tm _ _
    have q5 := w64n (x.wa % 32) (by omega)
    have q6 := w64n (x.lo % 32) (by omega)
    have sl := stF_len t i hi
    have el := enF_len t i hi
    have hat1 := stF_at hx
    have hat2 := enF_at hx
    have bl : ∀ F : Nat, imR ((stF t i ++ [F]).map nA) = imR ((stF t i).map nA) ++ [[.im (.flat (.int .i64 (F : Nat)))]] := fun F => by simp [imR, imL, nA]
    have bl2 : ∀ F : Nat, imR ((enF t i ++ [F]).map nA) = imR ((enF t i).map nA) ++ [[.im (.flat (.int .i64 (F : Nat)))]] := fun F => by simp [imR, imL, nA]
    clear ck
    simp only [treA, List.map] at hKL ⊢
    by_cases hp : x.pa % (i + 1) < i
    · have hvl : x.pa % (i + 1) < (stF t i).length := by omega
      have hv : (stF t i)[x.pa % (i + 1)]? = some (stF t i)[x.pa % (i + 1)] := List.getElem?_eq_getElem hvl
      have hvb := stF_le t i hi _ (List.mem_of_getElem? hv)
      generalize (stF t i)[x.pa % (i + 1)] = v at hv hvb
      have hF : frm t x i (stF t i) = v + x.wa % 32 := by simp [frm, hp, show 0 < i by omega, hv]
      rw [hF] at hat1
      rw [hF] at hat2
      have e2 : decide (((x.pa % (i + 1) : Nat) : Int) < i) = true := decide_eq_true (Int.ofNat_lt.2 hp)
      have e3 : decide ((i : Int) > 0) = true := by simp; omega
      have e4 : decide (x.pa % (i + 1) < i) = true := by simp; omega
      have q7 := wadd (v) (x.wa % 32) (by omega)
      have q8 := wadd (v + x.wa % 32) (x.lo % 32) (by omega)
      repeat' (first | refine W.seq fun K hK => ?_ | refine W.block ?_ | ((first | refine wR ?_ | refine wD ?_ | refine W.skip ?_ | refine W.exit ?_ | refine W.ret (Post.ret ?_) | refine aP ?_ | refine aF ?_); simp only [go_sem, reduceCtorEq, List.getElem?_map, hx, calA, e1, hw, List.length_map, imR_len, tm32, q1, q2, q3, q4, q5, q6, e2, e3, e4, sl, el, hv, nA, imL, q7, q8]) | refine wT ?_ | refine wF ?_ | refine wC (fun h => ?_) (fun h => ?_) | refine iK ?_ | refine aI2 ?_ | (refine hK _ ?_; clear hK K) | clear hK K)
      refine hKL.to (i + 1) (by omega) (by omega) (Fits.fit [(0, 0), (48, 1), (57, 2)] [1, 2, 3, 4] 3 rfl rfl ?_)
      simp only [go_sem, hat1, hat2, bl, bl2]
      exact Fits.rfl
    · have e2 : decide (((x.pa % (i + 1) : Nat) : Int) < i) = false := decide_eq_false fun h => hp (Int.ofNat_lt.1 h)
      by_cases h0 : 0 < i
      · have e3 : decide ((i : Int) > 0) = true := by simp; omega
        have hF : frm t x i (stF t i) = 1000 + t.start % 32 + x.wa % 32 := by simp [frm, hp, h0]
        rw [hF] at hat1 hat2
        have q7 := wadd (1000 + t.start % 32) (x.wa % 32) (by omega)
        have q8 := wadd (1000 + t.start % 32 + x.wa % 32) (x.lo % 32) (by omega)
        repeat' (first | refine W.seq fun K hK => ?_ | refine W.block ?_ | ((first | refine wR ?_ | refine wD ?_ | refine W.skip ?_ | refine W.exit ?_ | refine W.ret (Post.ret ?_) | refine aP ?_ | refine aF ?_); simp only [go_sem, reduceCtorEq, List.getElem?_map, hx, calA, e1, hw, List.length_map, imR_len, tm32, q1, q2, q3, q4, q5, q6, e2, e3, sl, el, nA, imL, q7, q8]) | refine wT ?_ | refine wF ?_ | refine wC (fun h => ?_) (fun h => ?_) | refine iK ?_ | refine aI2 ?_ | (refine hK _ ?_; clear hK K) | clear hK K)
        refine hKL.to (i + 1) (by omega) (by omega) (Fits.fit [(0, 0), (43, 1), (52, 2)] [1, 2, 3, 4] 3 rfl rfl ?_)
        simp only [go_sem, hat1, hat2, bl, bl2]
        exact Fits.rfl
      · have e3 : decide ((i : Int) > 0) = false := by simp; omega
        have hF : frm t x i (stF t i) = 1000 + t.start % 32 := by simp [frm, hp, h0]
        rw [hF] at hat1 hat2
        have q8 := wadd (1000 + t.start % 32) (x.lo % 32) (by omega)
        repeat' (first | refine W.seq fun K hK => ?_ | refine W.block ?_ | ((first | refine wR ?_ | refine wD ?_ | refine W.skip ?_ | refine W.exit ?_ | refine W.ret (Post.ret ?_) | refine aP ?_ | refine aF ?_); simp only [go_sem, reduceCtorEq, List.getElem?_map, hx, calA, e1, hw, List.length_map, imR_len, tm32, q1, q2, q3, q4, q5, q6, e2, e3, sl, el, nA, imL, q8]) | refine wT ?_ | refine wF ?_ | refine wC (fun h => ?_) (fun h => ?_) | refine iK ?_ | refine aI2 ?_ | (refine hK _ ?_; clear hK K) | clear hK K)
        refine hKL.to (i + 1) (by omega) (by omega) (Fits.fit [(0, 0), (36, 1), (45, 2)] [1, 2, 3, 4] 3 rfl rfl ?_)
        simp only [go_sem, hat1, hat2, bl, bl2]
        exact Fits.rfl
  obtain rfl : i = t.cs.length := by omega
  have e1 : decide ((t.cs.length : Int) < t.cs.length) = false := by simp
  clear hKL
  have e2 : IntKind.i64.wrap ((t.cs.length : Int) - 1) = ((t.cs.length - 1 : Nat) : Int) := by rw [w64 (by omega) (by omega)]; omega
  have hsl := stF_len t _ hi
  simp only [treA, List.map]
  repeat' (first | refine W.seq fun K hK => ?_ | refine W.block ?_ | ((first | refine wR ?_ | refine wD ?_ | refine W.skip ?_ | refine W.exit ?_ | refine W.ret (Post.ret ?_) | refine aP ?_ | refine aF ?_); simp only [go_sem, reduceCtorEq, e1, List.length_map, e2]) | refine wT ?_ | refine wF ?_ | refine wC (fun h => ?_) (fun h => ?_) | refine iK ?_ | refine aI2 ?_ | (refine hK _ ?_; clear hK K) | clear hK K)
  refine W.loopF (T := fun p : Nat × List Nat => { t := [(1, .c (.ptr 0 0)), (2, .c (.ref 1)), (3, .c (.ref 2)), (8, ft (.int .i64 (p.1 : Nat)))], h := [(0, .box 88 ((treA t).map .im)), (1, .row 3 (imR ((stL t).map nA))), (2, .row 3 (imR (p.2.map nA)))], nx := 3, ex := [], nt := 123 })
    (Inv := fun p => p.1 ≤ t.cs.length - 1 ∧ p.2.length = t.cs.length ∧ (∀ x ∈ p.2, x ≤ 2000) ∧ enG t p.1 p.2 = enL t) (μ := fun p => p.1) (x0 := (t.cs.length - 1, enF t t.cs.length)) (Fits.fit [(0, 0), (1, 1), (2, 2)] [1, 2, 3, 8] 3 rfl rfl ?_) ⟨Nat.le_refl _, enF_len t _ hi, fun x hx => by have := enF_le t _ hi x hx; omega, rfl⟩ ?_
  · simp only [go_sem, treA, stL, List.map]
    exact Fits.rfl
  rintro ⟨n, L⟩ ⟨hn, hl, hb, hinv⟩ KL hKL
  dsimp only at hn hl hb hinv hKL ⊢
  rcases n with _ | m
  · have e3 : decide (((0 : Nat) : Int) > 0) = false := by simp
    have hL : L = enL t := hinv
    subst hL
    clear hKL
    repeat' (first | refine W.seq fun K hK => ?_ | refine W.block ?_ | ((first | refine wR ?_ | refine wD ?_ | refine W.skip ?_ | refine W.exit ?_ | refine W.ret (Post.ret ?_) | refine aP ?_ | refine aF ?_); simp only [go_sem, reduceCtorEq, e3]) | refine wT ?_ | refine wF ?_ | refine wC (fun h => ?_) (fun h => ?_) | refine iK ?_ | refine aI2 ?_ | (refine hK _ ?_; clear hK K) | clear hK K)
  have e3 : decide (((m + 1 : Nat) : Int) > 0) = true := by simp
  obtain ⟨c, hc, hcm, _⟩ := drop_at (show m + 1 < t.cs.length by omega)
  have hq : c.pa % (m + 1 + 1) < t.cs.length := by have := Nat.mod_lt c.pa (show 0 < m + 1 + 1 by omega); omega
  obtain ⟨d, hdq, hdm, _⟩ := drop_at hq
  obtain ⟨b1, -⟩ := ht.2.2.1 c hcm
  have r1 := w64n c.pa (by omega)
  have r2 := w64s (m + 1) (by omega)
  have r3 : Int.tmod (c.pa : Int) ((m + 1 + 1 : Nat) : Int) = ((c.pa % (m + 1 + 1) : Nat) : Int) := tm _ _
  have r4 : IntKind.i64.wrap (((m + 1 : Nat) : Int) - 1) = (m : Int) := by rw [w64 (by omega) (by omega)]; omega
  have hW : waits t (m + 1) = (decide (c.pa % (m + 1 + 1) < m + 1) && decide (kdC c = 3) && decide (kdC d = 2) && !d.fa) := by simp [waits, hc, hdq]
  have hP : parN t (m + 1) = c.pa % (m + 1 + 1) := by simp [parN, hc]
  have k1 := ck c
  have k2 := ck d
  clear ck
  simp only [calT, calA, List.map, treA] at k1 k2 hKL ⊢
  generalize hpp : c.pa % (m + 1 + 1) = p at *
  have hi1 : decide ((p : Int) < ((m + 1 : Nat) : Int)) = decide (p < m + 1) := by congr 1; simp; omega
  have hi2 : (((kdC c : Nat) : Int) == 3) = decide (kdC c = 3) := by rw [Bool.eq_iff_iff]; simp; omega
  have hi3 : (((kdC d : Nat) : Int) == 2) = decide (kdC d = 2) := by rw [Bool.eq_iff_iff]; simp; omega
  have hno : waits t (m + 1) = false → enG t m L = enL t := fun h => by rw [← hinv]; simp [enG, stepE, h]
  cases h1 : decide (p < m + 1)
  · rw [h1] at hi1 hW
    repeat' (first | refine W.seq fun K hK => ?_ | refine W.block ?_ | ((first | refine wR ?_ | refine wD ?_ | refine W.skip ?_ | refine W.exit ?_ | refine W.ret (Post.ret ?_) | refine aP ?_ | refine aF ?_); simp only [go_sem, reduceCtorEq, List.getElem?_map, hc, hdq, calA, e3, List.length_map, r1, r2, r3, r4, hi1, hi2, hi3]) | refine wT ?_ | refine wF ?_ | refine wC (fun h => ?_) (fun h => ?_) | refine iK ?_ | refine aI2 ?_ | (refine hK _ ?_; clear hK K) | clear hK K)
    refine hKL.to (m, L) ⟨by omega, hl, hb, hno (by rw [hW]; rfl)⟩ (by simp) (Fits.fit [(0, 0), (1, 1), (2, 2)] [1, 2, 3, 8] 3 rfl rfl ?_)
    simp only [go_sem]
    exact Fits.rfl
  rw [h1] at hi1 hW
  cases h2 : decide (kdC c = 3)
  · rw [h2] at hi2 hW
    repeat' (first | refine W.seq fun K hK => ?_ | refine W.block ?_ | ((first | refine wR ?_ | refine wD ?_ | refine W.skip ?_ | refine W.exit ?_ | refine W.ret (Post.ret ?_) | refine aP ?_ | refine aF ?_); simp only [go_sem, reduceCtorEq, List.getElem?_map, hc, hdq, calA, e3, List.length_map, r1, r2, r3, r4, hi1, hi2, hi3]) | refine wT ?_ | refine wF ?_ | refine wC (fun h => ?_) (fun h => ?_) | refine iK ?_ | refine aI2 ?_ | (refine hK _ ?_; clear hK K) | clear hK K)
    refine hKL.to (m, L) ⟨by omega, hl, hb, hno (by rw [hW]; rfl)⟩ (by simp) (Fits.fit [(0, 0), (1, 1), (2, 2)] [1, 2, 3, 8] 3 rfl rfl ?_)
    simp only [go_sem]
    exact Fits.rfl
  rw [h2] at hi2 hW
  cases h3 : decide (kdC d = 2)
  · rw [h3] at hi3 hW
    repeat' (first | refine W.seq fun K hK => ?_ | refine W.block ?_ | ((first | refine wR ?_ | refine wD ?_ | refine W.skip ?_ | refine W.exit ?_ | refine W.ret (Post.ret ?_) | refine aP ?_ | refine aF ?_); simp only [go_sem, reduceCtorEq, List.getElem?_map, hc, hdq, calA, e3, List.length_map, r1, r2, r3, r4, hi1, hi2, hi3]) | refine wT ?_ | refine wF ?_ | refine wC (fun h => ?_) (fun h => ?_) | refine iK ?_ | refine aI2 ?_ | (refine hK _ ?_; clear hK K) | clear hK K)
    refine hKL.to (m, L) ⟨by omega, hl, hb, hno (by rw [hW]; rfl)⟩ (by simp) (Fits.fit [(0, 0), (1, 1), (2, 2)] [1, 2, 3, 8] 3 rfl rfl ?_)
    simp only [go_sem]
    exact Fits.rfl
  rw [h3] at hi3 hW
  have h4 : d.fa = true ∨ d.fa = false := by cases d.fa <;> simp
  rcases h4 with h4 | h4 <;> (rw [h4] at hW k2)
  · repeat' (first | refine W.seq fun K hK => ?_ | refine W.block ?_ | ((first | refine wR ?_ | refine wD ?_ | refine W.skip ?_ | refine W.exit ?_ | refine W.ret (Post.ret ?_) | refine aP ?_ | refine aF ?_); simp only [go_sem, reduceCtorEq, List.getElem?_map, hc, hdq, calA, e3, List.length_map, r1, r2, r3, r4, hi1, hi2, hi3, h4]) | refine wT ?_ | refine wF ?_ | refine wC (fun h => ?_) (fun h => ?_) | refine iK ?_ | refine aI2 ?_ | (refine hK _ ?_; clear hK K) | clear hK K)
    refine hKL.to (m, L) ⟨by omega, hl, hb, hno (by rw [hW]; rfl)⟩ (by simp) (Fits.fit [(0, 0), (1, 1), (2, 2)] [1, 2, 3, 8] 3 rfl rfl ?_)
    simp only [go_sem]
    exact Fits.rfl
  have hp1 : p < m + 1 := of_decide_eq_true h1
  have hLp : L[p]? = some L[p] := List.getElem?_eq_getElem (by omega)
  have hLi : L[m + 1]? = some (L[m + 1]'(by omega)) := List.getElem?_eq_getElem (by omega)
  have bp := hb _ (List.mem_of_getElem? hLp)
  have bi := hb _ (List.mem_of_getElem? hLi)
  obtain ⟨x, hx⟩ : ∃ x, x = L[p] := ⟨_, rfl⟩
  obtain ⟨y, hy⟩ : ∃ y, y = L[m + 1]'(by omega) := ⟨_, rfl⟩
  rw [← hx] at hLp bp
  rw [← hy] at hLi bi
  clear hx hy
  have d1 : decide (p < L.length) = true := by simp; omega
  have d2 : decide (m + 1 < L.length) = true := by simp; omega
  have hif : (if (y : Int) > (x : Int) then (y : Int) else (x : Int)) = ((max x y : Nat) : Int) := by split <;> omega
  have hst : stepE t L (m + 1) = L.set p (max x y) := by simp [stepE, hW, hP, hLp, hLi]
  have hset : imR ((L.set p (max x y)).map nA) = (imR (L.map nA)).set p [.im (.flat (.int .i64 ((max x y : Nat) : Int)))] := by simp [imR, imL, nA, List.map_set]
  repeat' (first | refine W.seq fun K hK => ?_ | refine W.block ?_ | ((first | refine wR ?_ | refine wD ?_ | refine W.skip ?_ | refine W.exit ?_ | refine W.ret (Post.ret ?_) | refine aP ?_ | refine aF ?_); simp only [go_sem, reduceCtorEq, List.getElem?_map, hc, hdq, calA, e3, List.length_map, r1, r2, r3, r4, hi1, hi2, hi3, h4, hLp, hLi, nA, imL, imR_len, d1, d2, hif]) | refine wT ?_ | refine wF ?_ | refine wC (fun h => ?_) (fun h => ?_) | refine iK ?_ | refine aI2 ?_ | (refine hK _ ?_; clear hK K) | clear hK K)
  refine hKL.to (m, L.set p (max x y)) ⟨by omega, by simp [hl], fun z hz => ?_, by rw [← hinv]; simp only [enG, hst]⟩ (by simp) (Fits.fit [(0, 0), (1, 1), (2, 2)] [1, 2, 3, 8] 3 rfl rfl ?_)
  · rcases List.mem_or_eq_of_mem_set hz with h | h
    · exact hb z h
    · omega
  rw [← hset]
  simp only [go_sem]
  exact Fits.rfl
end Go.Proofs.YtaaflhmfhnfjhaaGreat
namespace Go.Proofs.YtaaflhmfhnfjhaaGreat
open Go.RowKit Go.Exe
def svN (n : Nat) : ByteArray := if n = 0 then ⟨#[97, 112, 105]⟩ else if n = 1 then ⟨#[100, 98]⟩ else if n = 2 then ⟨#[119, 101, 98]⟩ else ⟨#[99, 97, 99, 104, 101]⟩
def veN (n : Nat) : ByteArray := if n = 0 then ⟨#[118, 49]⟩ else if n = 1 then ⟨#[118, 50]⟩ else ⟨#[]⟩
def opN (n : Nat) : ByteArray := if n = 0 then ⟨#[103, 101, 116]⟩ else if n = 1 then ⟨#[112, 117, 116]⟩ else ⟨#[108, 105, 115, 116]⟩
def paN (c : Cal) (i : Nat) : Nat := if c.pa % (i + 1) < i then c.pa % (i + 1) + 1 else if 0 < i then 100 else 0
def hasL (c : Cal) (i : Nat) (st : List Nat) : Bool := decide (c.li % 16 < i) && decide (st.getD (c.li % 16) 0 ≤ st.getD i 0)
def madeS (s : Sto) (k i : Nat) (c : Cal) (st en : List Nat) : Spn := ⟨((tidN s k : Nat) : Int), ((i + 1 : Nat) : Int), ((paN c i : Nat) : Int), 0, ((1 + c.cl % 4 : Nat) : Int), ((kdC c : Nat) : Int), svN (c.se % 4), veN (c.ve % 3), opN (c.op % 3), ((st.getD i 0 : Nat) : Int), ((en.getD i 0 : Nat) : Int), c.fa, attsC c, if hasL c i st then [(((tidN s k : Nat) : Int), ((c.li % 16 + 1 : Nat) : Int))] else []⟩
theorem tidN_lt {s : Sto} (hs : s.ok) (k : Nat) (hk : k < s.ts.length) : tidN s k < 1000000000 := by
  have := hs.2.2.2.2.2.2
  unfold tidN
  split
  · have := Nat.mod_lt ‹Tre›.slot (show 0 < 64 by omega); omega
  · omega
attribute [local irreducible] W AX Run RunD AStep AOp AOpX AStB AStH AStG Fits PCall GCall PostG Post Stop
theorem made_c (s : Sto) (hs : s.ok) (k i : Nat) (t : Tre) (c : Cal) (st en : List Nat) (hk : s.ts[k]? = some t) (hc : t.cs[i]? = some c) (hsl : st.length = t.cs.length) (hel : en.length = t.cs.length) :
    PCall Tryz.prog 57 [stoT s, ft (.int .i64 (k : Nat)), ft (.int .i64 (i : Nat)), natsT st, natsT en] (spT (madeS s k i c st en)) := by
  have hkl : k < s.ts.length := (List.getElem?_eq_some_iff.1 hk).1
  have hil : i < t.cs.length := (List.getElem?_eq_some_iff.1 hc).1
  have hto := hs.1 t (List.mem_of_getElem? hk)
  have hco := hto.2.2.1 c (List.mem_of_getElem? hc)
  have h8 := hto.2.2.2
  have c1 := tid_c s hs k hkl
  have c2 := kind_c c
  have c3 := attrs_c c hco
  obtain ⟨b1, b2, b3, b4, b5, b6, b7, b8, b9, b10⟩ := hco
  obtain ⟨v, hv⟩ : ∃ v, st[i]? = some v := ⟨st[i], List.getElem?_eq_getElem (by omega)⟩
  obtain ⟨u, hu⟩ : ∃ u, en[i]? = some u := ⟨en[i], List.getElem?_eq_getElem (by omega)⟩
  have hvD : st.getD i 0 = v := by simp [hv]
  have huD : en.getD i 0 = u := by simp [hu]
  have q1 := w64s i (by omega)
  have q2 := w64n (c.cl % 4) (by omega)
  have q3 : IntKind.i64.wrap (1 + ((c.cl % 4 : Nat) : Int)) = ((1 + c.cl % 4 : Nat) : Int) := wadd 1 _ (by omega)
  have q4 := w64n c.pa (by omega)
  have q5 : Int.tmod (c.pa : Int) ((i + 1 : Nat) : Int) = ((c.pa % (i + 1) : Nat) : Int) := tm _ _
  have q6 := w64s (c.pa % (i + 1)) (by have := Nat.mod_lt c.pa (show 0 < i + 1 by omega); omega)
  have q7 := w64n (c.li % 16) (by omega)
  have q8 := w64s (c.li % 16) (by omega)
  have s1 : ([[.im (.flat (.string ⟨#[97, 112, 105]⟩))], [.im (.flat (.string ⟨#[100, 98]⟩))], [.im (.flat (.string ⟨#[119, 101, 98]⟩))], [.im (.flat (.string ⟨#[99, 97, 99, 104, 101]⟩))]] : List (List Cell))[c.se % 4]? = some [.im (.flat (.string (svN (c.se % 4))))] := by
    rcases (by omega : c.se % 4 = 0 ∨ c.se % 4 = 1 ∨ c.se % 4 = 2 ∨ c.se % 4 = 3) with h | h | h | h <;> simp [h, svN]
  have s2 : ([[.im (.flat (.string ⟨#[118, 49]⟩))], [.im (.flat (.string ⟨#[118, 50]⟩))], [.im (.flat (.string ⟨#[]⟩))]] : List (List Cell))[c.ve % 3]? = some [.im (.flat (.string (veN (c.ve % 3))))] := by
    rcases (by omega : c.ve % 3 = 0 ∨ c.ve % 3 = 1 ∨ c.ve % 3 = 2) with h | h | h <;> simp [h, veN]
  have s3 : ([[.im (.flat (.string ⟨#[103, 101, 116]⟩))], [.im (.flat (.string ⟨#[112, 117, 116]⟩))], [.im (.flat (.string ⟨#[108, 105, 115, 116]⟩))]] : List (List Cell))[c.op % 3]? = some [.im (.flat (.string (opN (c.op % 3))))] := by
    rcases (by omega : c.op % 3 = 0 ∨ c.op % 3 = 1 ∨ c.op % 3 = 2) with h | h | h <;> simp [h, opN]
  have d1 : decide (c.se % 4 < 4) = true := by simp; omega
  have d2 : decide (c.ve % 3 < 3) = true := by simp; omega
  have d3 : decide (c.op % 3 < 3) = true := by simp; omega
  have e1 : decide (((c.pa % (i + 1) : Nat) : Int) < (i : Int)) = decide (c.pa % (i + 1) < i) := by congr 1; exact propext Int.ofNat_lt
  have e2 : decide ((i : Int) > 0) = decide (0 < i) := by congr 1; simp
  have e3 : decide (((c.li % 16 : Nat) : Int) < (i : Int)) = decide (c.li % 16 < i) := by congr 1; exact propext Int.ofNat_lt
  have hpa1 : decide (c.pa % (i + 1) < i) = true → ((paN c i : Nat) : Int) = ((c.pa % (i + 1) + 1 : Nat) : Int) := fun h => by simp only [decide_eq_true_eq] at h; simp [paN, h]
  have hpa2 : decide (c.pa % (i + 1) < i) = false → decide (0 < i) = true → ((paN c i : Nat) : Int) = 100 := fun h h' => by simp only [decide_eq_true_eq, decide_eq_false_iff_not] at h h'; simp [paN, h, h']
  have hpa3 : decide (c.pa % (i + 1) < i) = false → decide (0 < i) = false → ((paN c i : Nat) : Int) = 0 := fun h h' => by simp only [decide_eq_false_iff_not] at h h'; simp [paN, h, h']
  cases hL : hasL c i st
  · refine PCall.conv (args' := [stoT s, ft (.int .i64 (k : Nat)), ft (.int .i64 (i : Nat)), natsT st, natsT en]) (r' := .g [fl (.int .i64 (tidN s k : Nat)), fl (.int .i64 (i + 1 : Nat)), fl (.int .i64 (paN c i : Nat)), fl (.int .i64 0), fl (.int .i64 (1 + c.cl % 4 : Nat)), fl (.int .i64 (kdC c : Nat)), fl (.string (svN (c.se % 4))), fl (.string (veN (c.ve % 3))), fl (.string (opN (c.op % 3))), fl (.int .i64 (v : Nat)), fl (.int .i64 (u : Nat)), fl (.bool c.fa), .im (.sl 177 ((attsC c).map attA)), fl (.slice none 0 0)]) ?_ (Al.refl (fun _ => TLe.rfl) _) (TLe.g ?_)
    rotate_left
    · simp only [spA, madeS, hL, hvD, huD, List.map, Bool.false_eq_true, if_false, List.map_nil]
      repeat (first | exact Al.nil | (refine Al.cons (by first | exact CLe.rfl | exact CLe.nil) ?_))
    simp only [stoT, stoA, calT, calA, List.map] at c1 c2 c3 ⊢
    cases hj : decide (c.li % 16 < i)
    · rw [hj] at e3
      refine PCall.intro (nt := 112) (rs := [.cell 10 36]) Tryz.func57 rfl ⟨by kernel_rfl, by kernel_rfl, by kernel_rfl⟩ (by simp) ?_
      rintro ⟨P, w0, ok0, may, np, pblk⟩ rfl rfl
      repeat' (first | refine W.seq fun K hK => ?_ | refine W.block ?_ | ((first | refine wR ?_ | refine wD ?_ | refine W.skip ?_ | refine W.exit ?_ | refine W.ret (Post.ret ?_) | refine aP ?_ | refine aF ?_); simp only [go_sem, reduceCtorEq, List.getElem?_map, hk, hc, treA, calA, q1, q2, q3, q4, q5, q6, q7, q8, tm3, tm4, tm16, s1, s2, s3, d1, d2, d3, hv, hu, nA, e1, e2, e3, imL]) | refine wT ?_ | refine wF ?_ | refine wC (fun h => ?_) (fun h => ?_) | refine iK ?_ | refine aI2 ?_ | (refine hK _ ?_; clear hK K) | clear hK K)
      all_goals first | rw [hpa1 (by assumption)] | rw [hpa2 (by assumption) (by assumption)] | rw [hpa3 (by assumption) (by assumption)]
    · rw [hj] at e3
      have hj' := of_decide_eq_true hj
      obtain ⟨x, hx⟩ : ∃ x, st[c.li % 16]? = some x := ⟨st[c.li % 16], List.getElem?_eq_getElem (by omega)⟩
      have e4 : decide ((x : Int) ≤ (v : Int)) = false := by
        have h : hasL c i st = decide (x ≤ v) := by simp [hasL, hx, hv, hj']
        rw [hL] at h
        have := of_decide_eq_false h.symm
        exact decide_eq_false fun h => this (Int.ofNat_le.1 h)
      refine PCall.intro (nt := 112) (rs := [.cell 10 36]) Tryz.func57 rfl ⟨by kernel_rfl, by kernel_rfl, by kernel_rfl⟩ (by simp) ?_
      rintro ⟨P, w0, ok0, may, np, pblk⟩ rfl rfl
      repeat' (first | refine W.seq fun K hK => ?_ | refine W.block ?_ | ((first | refine wR ?_ | refine wD ?_ | refine W.skip ?_ | refine W.exit ?_ | refine W.ret (Post.ret ?_) | refine aP ?_ | refine aF ?_); simp only [go_sem, reduceCtorEq, List.getElem?_map, hk, hc, treA, calA, q1, q2, q3, q4, q5, q6, q7, q8, tm3, tm4, tm16, s1, s2, s3, d1, d2, d3, hv, hu, hx, nA, e1, e2, e3, e4, imL]) | refine wT ?_ | refine wF ?_ | refine wC (fun h => ?_) (fun h => ?_) | refine iK ?_ | refine aI2 ?_ | (refine hK _ ?_; clear hK K) | clear hK K)
      all_goals first | rw [hpa1 (by assumption)] | rw [hpa2 (by assumption) (by assumption)] | rw [hpa3 (by assumption) (by assumption)]
  · have hj : decide (c.li % 16 < i) = true := by unfold hasL at hL; simp only [Bool.and_eq_true] at hL; exact hL.1
    rw [hj] at e3
    have hj' := of_decide_eq_true hj
    obtain ⟨x, hx⟩ : ∃ x, st[c.li % 16]? = some x := ⟨st[c.li % 16], List.getElem?_eq_getElem (by omega)⟩
    have e4 : decide ((x : Int) ≤ (v : Int)) = true := by
      have h : hasL c i st = decide (x ≤ v) := by simp [hasL, hx, hv, hj']
      rw [hL] at h
      exact decide_eq_true (Int.ofNat_le.2 (of_decide_eq_true h.symm))
    simp only [stoT, stoA, calT, calA, List.map] at c1 c2 c3 ⊢
    simp only [spA, madeS, hL, hvD, huD, List.map, if_true, List.map_cons, List.map_nil, refA]
    refine PCall.intro (nt := 112) (rs := [.cell 10 36]) Tryz.func57 rfl ⟨by kernel_rfl, by kernel_rfl, by kernel_rfl⟩ (by simp) ?_
    rintro ⟨P, w0, ok0, may, np, pblk⟩ rfl rfl
    repeat' (first | refine W.seq fun K hK => ?_ | refine W.block ?_ | ((first | refine wR ?_ | refine wD ?_ | refine W.skip ?_ | refine W.exit ?_ | refine W.ret (Post.ret ?_) | refine aP ?_ | refine aF ?_); simp only [go_sem, reduceCtorEq, List.getElem?_map, hk, hc, treA, calA, q1, q2, q3, q4, q5, q6, q7, q8, tm3, tm4, tm16, s1, s2, s3, d1, d2, d3, hv, hu, hx, nA, e1, e2, e3, e4, imL]) | refine wT ?_ | refine wF ?_ | refine wC (fun h => ?_) (fun h => ?_) | refine iK ?_ | refine aI2 ?_ | (refine hK _ ?_; clear hK K) | clear hK K)
    all_goals first | (rw [hpa1 (by assumption)]; rfl) | (rw [hpa2 (by assumption) (by assumption)]; rfl) | (rw [hpa3 (by assumption) (by assumption)]; rfl)
end Go.Proofs.YtaaflhmfhnfjhaaGreat
namespace Go.Proofs.YtaaflhmfhnfjhaaGreat
open Go.RowKit Go.Exe
def wrongS (s : Sto) (k i : Nat) : Bool := decide (0 < s.wr) && decide (s.wr % 8 = i) && decide (s.wr / 8 % 3 = k)
def byS (s : Sto) (k i : Nat) (c : Cal) : Int := if wrongS s k i then offC s (1 + c.cl % 4) + 500 else offC s (1 + c.cl % 4)
def spnS (s : Sto) (k : Nat) (t : Tre) (i : Nat) (c : Cal) : Spn := { madeS s k i c (stL t) (enL t) with st := (((stL t).getD i 0 : Nat) : Int) + byS s k i c, en := (((enL t).getD i 0 : Nat) : Int) + byS s k i c }
def trcS (s : Sto) (k : Nat) (t : Tre) : List Spn := t.cs.zipIdx.map fun y => spnS s k t y.2 y.1
theorem trcS_at {s : Sto} {k : Nat} {t : Tre} {i : Nat} {c : Cal} (h : t.cs[i]? = some c) : (trcS s k t)[i]? = some (spnS s k t i c) := by
  have : t.cs.zipIdx[i]? = some (c, i) := by simp [List.getElem?_zipIdx, h]
  simp [trcS, this]
theorem trcS_len (s : Sto) (k : Nat) (t : Tre) : (trcS s k t).length = t.cs.length := by simp [trcS]
theorem offC_b (s : Sto) (n : Nat) : -21 < offC s n ∧ offC s n < 21 := by
  unfold offC
  exact ⟨Int.lt_tmod_of_pos _ (by omega), Int.tmod_lt_of_pos _ (by omega)⟩
theorem stL_len (t : Tre) : (stL t).length = t.cs.length := stF_len t _ (Nat.le_refl _)
theorem enG_len (t : Tre) : ∀ (n : Nat) (L : List Nat), (enG t n L).length = L.length
  | 0, L => rfl
  | n + 1, L => by
    rw [enG, enG_len t n]
    unfold stepE
    split <;> simp
theorem enL_len (t : Tre) : (enL t).length = t.cs.length := by rw [enL, enG_len, enF_len t _ (Nat.le_refl _)]
theorem getD_le {L : List Nat} {b : Nat} (h : ∀ x ∈ L, x ≤ b) (i : Nat) : L.getD i 0 ≤ b := by
  rw [List.getD_eq_getElem?_getD]
  cases e : L[i]? with
  | none => simp
  | some y => exact h y (List.mem_of_getElem? e)
theorem enG_le (t : Tre) {b : Nat} : ∀ (n : Nat) (L : List Nat), (∀ x ∈ L, x ≤ b) → ∀ x ∈ enG t n L, x ≤ b
  | 0, L, h => h
  | n + 1, L, h => by
    rw [enG]
    refine enG_le t n _ fun x hx => ?_
    unfold stepE at hx
    split at hx
    · rcases List.mem_or_eq_of_mem_set hx with hx | hx
      · exact h x hx
      · have h1 := getD_le h (parN t (n + 1))
        have h2 := getD_le h (n + 1)
        omega
    · exact h x hx
theorem stL_le {t : Tre} (h8 : t.cs.length ≤ 8) : ∀ x ∈ stL t, x ≤ 2000 := fun x hx => by have := stF_le t _ (Nat.le_refl _) x hx; omega
theorem enL_le {t : Tre} (h8 : t.cs.length ≤ 8) : ∀ x ∈ enL t, x ≤ 2000 := enG_le t _ _ fun x hx => by have := enF_le t _ (Nat.le_refl _) x hx; omega
attribute [local irreducible] W AX Run RunD AStep AOp AOpX AStB AStH AStG Fits PCall GCall PostG Post Stop
theorem strace_c (s : Sto) (hs : s.ok) (k : Nat) (t : Tre) (hk : s.ts[k]? = some t) (h0 : 0 < t.cs.length) :
    PCall Tryz.prog 33 [stoT s, ft (.int .i64 (k : Nat)), ft (.bool false)] (spsT (trcS s k t)) := by
  have hto := hs.1 t (List.mem_of_getElem? hk)
  have h8 := hto.2.2.2
  have c80 := times_c t hto h0
  have cm : ∀ (i : Nat) (c : Cal), t.cs[i]? = some c → PCall Tryz.prog 57 [stoT s, ft (.int .i64 (k : Nat)), ft (.int .i64 (i : Nat)), natsT (stL t), natsT (enL t)] (spT (madeS s k i c (stL t) (enL t))) := fun i c hc => made_c s hs k i t c _ _ hk hc (stL_len t) (enL_len t)
  have co : ∀ c : Cal, PCall Tryz.prog 25 [stoT s, ft (.int .i64 (1 + c.cl % 4 : Nat))] (ft (.int .i64 (offC s (1 + c.cl % 4)))) := fun c => off_c s hs _ (by omega) (by omega)
  have bs := stL_le h8
  have be := enL_le h8
  have hwr := hs.2.2.2.2.2.1
  simp only [stoT, stoA, treT, treA, List.map] at c80 cm co ⊢
  refine PCall.intro (nt := 82) (rs := [.tmp 6]) Tryz.func33 rfl ⟨by kernel_rfl, by kernel_rfl, by kernel_rfl⟩ (by simp) ?_
  rintro ⟨P, w0, ok0, may, np, pblk⟩ rfl rfl
  repeat' (first | refine W.seq fun K hK => ?_ | refine W.block ?_ | ((first | refine wR ?_ | refine wD ?_ | refine W.skip ?_ | refine W.exit ?_ | refine W.ret (Post.ret ?_) | refine aP ?_ | refine aF ?_); simp only [go_sem, reduceCtorEq, List.getElem?_map, hk, treA]) | refine wT ?_ | refine wF ?_ | refine wC (fun h => ?_) (fun h => ?_) | refine iK ?_ | refine aI2 ?_ | (refine hK _ ?_; clear hK K) | clear hK K)
  refine W.loopF (T := fun i : Nat => { t := [(1, ft (.int .i64 (k : Nat))), (2, ft (.bool false)), (3, .c (.ptr 0 0)), (7, .c (.ref 1)), (8, natsT (stL t)), (9, natsT (enL t)), (10, ft (.int .i64 (i : Nat)))], h := [(0, .box 27 ((stoA s).map .im)), (1, .row 36 (imR (((trcS s k t).take i).map spA)))], nx := 2, ex := [], nt := 82 })
    (Inv := fun i => i ≤ t.cs.length) (μ := fun i => t.cs.length - i) (x0 := 0) ?_ (Nat.zero_le _) ?_
  · refine Fits.adopt 7 99 36 rfl rfl rfl tE36 rfl ?_
    refine Fits.fit [(0, 0), (99, 1)] [1, 2, 3, 7, 8, 9, 10] 2 rfl rfl ?_
    simp only [go_sem, List.take_zero, List.map_nil, imR_nil, stoA, List.map]
    exact Fits.rfl
  rintro i hi KL hKL
  by_cases hlt : i < t.cs.length
  · obtain ⟨c, hc, hm, hd⟩ := drop_at hlt
    have e1 : decide ((i : Int) < t.cs.length) = true := by simp; omega
    have hw := w64s i (by omega)
    have cmi := cm i c hc
    have coi := co c
    clear cm co c80
    have ob := offC_b s (1 + c.cl % 4)
    have vb := getD_le bs i
    have ub := getD_le be i
    have hsn : (trcS s k t).take (i + 1) = (trcS s k t).take i ++ [spnS s k t i c] := by rw [List.take_add_one, trcS_at hc]; rfl
    have himR : imR (((trcS s k t).take (i + 1)).map spA) = imR (((trcS s k t).take i).map spA) ++ [(spA (spnS s k t i c)).map .im] := by rw [hsn]; simp [imR, imL]
    have r1 := w64n s.wr (by omega)
    have r2 := w64n (s.wr / 8) (by omega)
    have g1 : decide ((s.wr : Int) > 0) = decide (0 < s.wr) := by congr 1; simp
    have g2 : (((s.wr % 8 : Nat) : Int) == (i : Int)) = decide (s.wr % 8 = i) := by rw [Bool.eq_iff_iff, beq_iff_eq, decide_eq_true_eq]; exact Int.ofNat_inj
    have g3 : (((s.wr / 8 % 3 : Nat) : Int) == (k : Int)) = decide (s.wr / 8 % 3 = k) := by rw [Bool.eq_iff_iff, beq_iff_eq, decide_eq_true_eq]; exact Int.ofNat_inj
    have hW : wrongS s k i = (decide (0 < s.wr) && decide (s.wr % 8 = i) && decide (s.wr / 8 % 3 = k)) := rfl
    simp only [stoA, List.map, spT, spA, madeS] at hKL cmi ⊢
    repeat' (first | refine W.stop (id := 9) ?_ | refine W.seq fun K hK => ?_ | refine W.block ?_ | ((first | refine wR ?_ | refine wD ?_ | refine W.skip ?_ | refine W.exit ?_ | refine W.ret (Post.ret ?_) | refine aP ?_ | refine aF ?_); simp only [go_sem, reduceCtorEq, List.getElem?_map, hk, treA, e1, List.length_map, hw]) | refine wT ?_ | refine wF ?_ | refine wC (fun h => ?_) (fun h => ?_) | refine iK ?_ | refine aI2 ?_ | (refine hK _ ?_; clear hK K) | clear hK K)
    refine Stop.out ?_
    cases a1 : decide (0 < s.wr)
    · rw [a1] at g1 hW
      have z1 : IntKind.i64.wrap ((((stL t).getD i 0 : Nat) : Int) + offC s (1 + c.cl % 4)) = (((stL t).getD i 0 : Nat) : Int) + offC s (1 + c.cl % 4) := w64 (by omega) (by omega)
      have z2 : IntKind.i64.wrap ((((enL t).getD i 0 : Nat) : Int) + offC s (1 + c.cl % 4)) = (((enL t).getD i 0 : Nat) : Int) + offC s (1 + c.cl % 4) := w64 (by omega) (by omega)
      have hb : byS s k i c = offC s (1 + c.cl % 4) := by simp [byS, hW]
      repeat' (first | refine W.seq fun K hK => ?_ | refine W.block ?_ | ((first | refine wR ?_ | refine wD ?_ | refine W.skip ?_ | refine W.exit ?_ | refine W.ret (Post.ret ?_) | refine aP ?_ | refine aF ?_); simp only [go_sem, reduceCtorEq, r1, r2, tm8, td8, tm3, g1, g2, g3, z1, z2, hw, imR_len, List.length_take, trcS_len]) | refine wT ?_ | refine wF ?_ | refine wC (fun h => ?_) (fun h => ?_) | refine iK ?_ | refine aI2 ?_ | (refine hK _ ?_; clear hK K) | clear hK K)
      refine hKL.to (i + 1) (by omega) (by omega) (Fits.fit [(0, 0), (61, 1)] [1, 2, 3, 7, 8, 9, 10] 2 rfl rfl ?_)
      simp only [go_sem, himR, spA, spnS, madeS, hb, List.map]
      exact Fits.rfl
    rw [a1] at g1 hW
    cases a2 : decide (s.wr % 8 = i)
    · rw [a2] at g2 hW
      have z1 : IntKind.i64.wrap ((((stL t).getD i 0 : Nat) : Int) + offC s (1 + c.cl % 4)) = (((stL t).getD i 0 : Nat) : Int) + offC s (1 + c.cl % 4) := w64 (by omega) (by omega)
      have z2 : IntKind.i64.wrap ((((enL t).getD i 0 : Nat) : Int) + offC s (1 + c.cl % 4)) = (((enL t).getD i 0 : Nat) : Int) + offC s (1 + c.cl % 4) := w64 (by omega) (by omega)
      have hb : byS s k i c = offC s (1 + c.cl % 4) := by simp [byS, hW]
      repeat' (first | refine W.seq fun K hK => ?_ | refine W.block ?_ | ((first | refine wR ?_ | refine wD ?_ | refine W.skip ?_ | refine W.exit ?_ | refine W.ret (Post.ret ?_) | refine aP ?_ | refine aF ?_); simp only [go_sem, reduceCtorEq, r1, r2, tm8, td8, tm3, g1, g2, g3, z1, z2, hw, imR_len, List.length_take, trcS_len]) | refine wT ?_ | refine wF ?_ | refine wC (fun h => ?_) (fun h => ?_) | refine iK ?_ | refine aI2 ?_ | (refine hK _ ?_; clear hK K) | clear hK K)
      refine hKL.to (i + 1) (by omega) (by omega) (Fits.fit [(0, 0), (61, 1)] [1, 2, 3, 7, 8, 9, 10] 2 rfl rfl ?_)
      simp only [go_sem, himR, spA, spnS, madeS, hb, List.map]
      exact Fits.rfl
    rw [a2] at g2 hW
    cases a3 : decide (s.wr / 8 % 3 = k)
    · rw [a3] at g3 hW
      have z1 : IntKind.i64.wrap ((((stL t).getD i 0 : Nat) : Int) + offC s (1 + c.cl % 4)) = (((stL t).getD i 0 : Nat) : Int) + offC s (1 + c.cl % 4) := w64 (by omega) (by omega)
      have z2 : IntKind.i64.wrap ((((enL t).getD i 0 : Nat) : Int) + offC s (1 + c.cl % 4)) = (((enL t).getD i 0 : Nat) : Int) + offC s (1 + c.cl % 4) := w64 (by omega) (by omega)
      have hb : byS s k i c = offC s (1 + c.cl % 4) := by simp [byS, hW]
      repeat' (first | refine W.seq fun K hK => ?_ | refine W.block ?_ | ((first | refine wR ?_ | refine wD ?_ | refine W.skip ?_ | refine W.exit ?_ | refine W.ret (Post.ret ?_) | refine aP ?_ | refine aF ?_); simp only [go_sem, reduceCtorEq, r1, r2, tm8, td8, tm3, g1, g2, g3, z1, z2, hw, imR_len, List.length_take, trcS_len]) | refine wT ?_ | refine wF ?_ | refine wC (fun h => ?_) (fun h => ?_) | refine iK ?_ | refine aI2 ?_ | (refine hK _ ?_; clear hK K) | clear hK K)
      refine hKL.to (i + 1) (by omega) (by omega) (Fits.fit [(0, 0), (61, 1)] [1, 2, 3, 7, 8, 9, 10] 2 rfl rfl ?_)
      simp only [go_sem, himR, spA, spnS, madeS, hb, List.map]
      exact Fits.rfl
    · rw [a3] at g3 hW
      have z0 : IntKind.i64.wrap (offC s (1 + c.cl % 4) + 500) = offC s (1 + c.cl % 4) + 500 := w64 (by omega) (by omega)
      have z1 : IntKind.i64.wrap ((((stL t).getD i 0 : Nat) : Int) + (offC s (1 + c.cl % 4) + 500)) = (((stL t).getD i 0 : Nat) : Int) + (offC s (1 + c.cl % 4) + 500) := w64 (by omega) (by omega)
      have z2 : IntKind.i64.wrap ((((enL t).getD i 0 : Nat) : Int) + (offC s (1 + c.cl % 4) + 500)) = (((enL t).getD i 0 : Nat) : Int) + (offC s (1 + c.cl % 4) + 500) := w64 (by omega) (by omega)
      have hb : byS s k i c = offC s (1 + c.cl % 4) + 500 := by simp [byS, hW]
      repeat' (first | refine W.seq fun K hK => ?_ | refine W.block ?_ | ((first | refine wR ?_ | refine wD ?_ | refine W.skip ?_ | refine W.exit ?_ | refine W.ret (Post.ret ?_) | refine aP ?_ | refine aF ?_); simp only [go_sem, reduceCtorEq, r1, r2, tm8, td8, tm3, g1, g2, g3, z0, z1, z2, hw, imR_len, List.length_take, trcS_len]) | refine wT ?_ | refine wF ?_ | refine wC (fun h => ?_) (fun h => ?_) | refine iK ?_ | refine aI2 ?_ | (refine hK _ ?_; clear hK K) | clear hK K)
      refine hKL.to (i + 1) (by omega) (by omega) (Fits.fit [(0, 0), (64, 1)] [1, 2, 3, 7, 8, 9, 10] 2 rfl rfl ?_)
      simp only [go_sem, himR, spA, spnS, madeS, hb, List.map]
      exact Fits.rfl
  obtain rfl : i = t.cs.length := by omega
  have e1 : decide ((t.cs.length : Int) < t.cs.length) = false := by simp
  clear hKL
  rw [show (trcS s k t).take t.cs.length = trcS s k t by rw [← trcS_len s k t, List.take_length]]
  simp only [stoA, List.map]
  repeat' (first | refine W.seq fun K hK => ?_ | refine W.block ?_ | ((first | refine wR ?_ | refine wD ?_ | refine W.skip ?_ | refine W.exit ?_ | refine W.ret (Post.ret ?_) | refine aP ?_ | refine aF ?_); simp only [go_sem, reduceCtorEq, List.getElem?_map, hk, treA, e1, List.length_map]) | refine wT ?_ | refine wF ?_ | refine wC (fun h => ?_) (fun h => ?_) | refine iK ?_ | refine aI2 ?_ | (refine hK _ ?_; clear hK K) | clear hK K)
end Go.Proofs.YtaaflhmfhnfjhaaGreat
