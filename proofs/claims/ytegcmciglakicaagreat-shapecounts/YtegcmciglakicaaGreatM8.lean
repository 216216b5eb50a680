import Derived.Test.YtegcmciglakicaaGreatM6
import Derived.Test.YtegcmciglakicaaGreatM3
import Derived.Test.YtegcmciglakicaaGreatM2
import Derived.Test.YtegcmciglakicaaGreatM7
namespace Go.Proofs.YtegcmciglakicaaGreat
open Go.RowKit Go.Exe
set_option linter.unusedVariables false
set_option linter.unusedSimpArgs false
set_option maxHeartbeats 8000000
set_option maxRecDepth 100000
/-! ### stories -/
structure Cal where
  pa : Nat
  cl : Nat
  ki : Nat
  se : Nat
  ve : Nat
  op : Nat
  wa : Nat
  lo : Nat
  li : Nat
  ta : Nat
  fa : Bool
structure Tre where
  slot : Nat
  start : Nat
  cs : List Cal
structure Sto where
  ts : List Tre
  o1 : Int
  o2 : Int
  o3 : Int
  o4 : Int
  sy : List (List AV)
  wr : Nat
def Cal.ok (c : Cal) : Prop := c.pa < 256 ∧ c.cl < 256 ∧ c.ki < 256 ∧ c.se < 256 ∧ c.ve < 256 ∧ c.op < 256 ∧ c.wa < 256 ∧ c.lo < 256 ∧ c.li < 256 ∧ c.ta < 256
def i8 (n : Int) : Prop := -128 ≤ n ∧ n ≤ 127
def Tre.ok (t : Tre) : Prop := t.slot < 256 ∧ t.start < 256 ∧ (∀ c ∈ t.cs, c.ok) ∧ t.cs.length ≤ 8
def Sto.ok (s : Sto) : Prop := (∀ t ∈ s.ts, t.ok) ∧ i8 s.o1 ∧ i8 s.o2 ∧ i8 s.o3 ∧ i8 s.o4 ∧ s.wr < 256 ∧ s.ts.length ≤ 3
def calA (c : Cal) : List AV := [.flat (.int .u8 (c.pa : Nat)), .flat (.int .u8 (c.cl : Nat)), .flat (.int .u8 (c.ki : Nat)), .flat (.int .u8 (c.se : Nat)), .flat (.int .u8 (c.ve : Nat)), .flat (.int .u8 (c.op : Nat)), .flat (.int .u8 (c.wa : Nat)), .flat (.int .u8 (c.lo : Nat)), .flat (.int .u8 (c.li : Nat)), .flat (.int .u8 (c.ta : Nat)), .flat (.bool c.fa)]
def treA (t : Tre) : List AV := [.flat (.int .u8 (t.slot : Nat)), .flat (.int .u8 (t.start : Nat)), .sl 193 (t.cs.map calA)]
def stoA (s : Sto) : List AV := [.sl 91 (s.ts.map treA), .flat (.int .i8 s.o1), .flat (.int .i8 s.o2), .flat (.int .i8 s.o3), .flat (.int .i8 s.o4), .sl 261 s.sy, .flat (.int .u8 (s.wr : Nat))]
abbrev calT (c : Cal) : TV := .g ((calA c).map .im)
abbrev treT (t : Tre) : TV := .g ((treA t).map .im)
abbrev stoT (s : Sto) : TV := .g ((stoA s).map .im)
/-- The first m trees have at most 8 calls. -/
def shortT (s : Sto) (m : Nat) : Bool := (s.ts.take m).all fun t => decide (t.cs.length ≤ 8)
def shortS (s : Sto) : Bool := shortT s s.ts.length && decide (s.ts.length ≤ 3) && decide (s.sy.length ≤ 6)
def tidN (s : Sto) (k : Nat) : Nat := match s.ts[k]? with | some t => (t.slot % 64) * 1048576 + 1 + k | none => 0
def kdC (c : Cal) : Nat := 1 + c.ki % 5
def offC (s : Sto) (clk : Nat) : Int := Int.tmod (if clk = 1 then s.o1 else if clk = 2 then s.o2 else if clk = 3 then s.o3 else s.o4) 21
/-! ### remainders of bytes -/
theorem tm (a b : Nat) : Int.tmod (a : Int) (b : Int) = ((a % b : Nat) : Int) := by
  rw [Int.tmod_eq_emod_of_nonneg (by omega)]; rfl
theorem td (a b : Nat) : Int.tdiv (a : Int) (b : Int) = ((a / b : Nat) : Int) := rfl
theorem tm2 (a : Nat) : Int.tmod (a : Int) 2 = ((a % 2 : Nat) : Int) := tm a 2
theorem tm3 (a : Nat) : Int.tmod (a : Int) 3 = ((a % 3 : Nat) : Int) := tm a 3
theorem tm4 (a : Nat) : Int.tmod (a : Int) 4 = ((a % 4 : Nat) : Int) := tm a 4
theorem tm5 (a : Nat) : Int.tmod (a : Int) 5 = ((a % 5 : Nat) : Int) := tm a 5
theorem tm8 (a : Nat) : Int.tmod (a : Int) 8 = ((a % 8 : Nat) : Int) := tm a 8
theorem tm16 (a : Nat) : Int.tmod (a : Int) 16 = ((a % 16 : Nat) : Int) := tm a 16
theorem tm32 (a : Nat) : Int.tmod (a : Int) 32 = ((a % 32 : Nat) : Int) := tm a 32
theorem tm64 (a : Nat) : Int.tmod (a : Int) 64 = ((a % 64 : Nat) : Int) := tm a 64
theorem td4 (a : Nat) : Int.tdiv (a : Int) 4 = ((a / 4 : Nat) : Int) := td a 4
theorem td8 (a : Nat) : Int.tdiv (a : Int) 8 = ((a / 8 : Nat) : Int) := td a 8
theorem w64n (a : Nat) (h : a < 9223372036854775808) : IntKind.i64.wrap (a : Int) = (a : Int) := w64 (by omega) (by omega)
theorem w8n (a : Nat) (h : a < 256) : IntKind.u8.wrap (a : Int) = (a : Int) := by
  unfold IntKind.wrap; simp [IntKind.signed, IntKind.bits]; omega
attribute [local irreducible] W AX Run RunD AStep AOp AOpX AStB AStH AStG Fits PCall GCall PostG Post Stop
theorem short_c (s : Sto) : PCall Tryz.prog 8 [stoT s] (ft (.bool (shortS s))) := by
  simp only [stoT, stoA, List.map]
  refine PCall.intro (nt := 29) (rs := [.tmp 2]) Tryz.func8 rfl ⟨by kernel_rfl, by kernel_rfl, by kernel_rfl⟩ (by simp) ?_
  rintro ⟨P, w0, ok0, may, np, pblk⟩ rfl rfl
  repeat' (first | ((show W _ _ _ _); first | refine W.stop (id := 1) ?_ | refine W.seq fun K hK => ?_ | refine W.block ?_ | ((first | refine wR ?_ | refine wD ?_ | refine W.skip ?_ | refine W.exit ?_ | refine W.ret (Post.ret ?_)); simp only [go_sem, reduceCtorEq]) | refine wT ?_ | refine wF ?_ | refine wC (fun h => ?_) (fun h => ?_)) | ((show AX _ _ _ _ _); (first | refine aP ?_ | refine aF ?_); simp only [go_sem, reduceCtorEq]) | refine iK ?_ | refine aI2 ?_ | (refine hK _ ?_; clear hK K) | clear hK K)
  refine Stop.out ?_
  refine W.lenX 0 0 rfl rfl tE91 fun hlen hbytes => ?_
  rw [maxLen_is] at hlen
  simp only [List.length_map] at hlen
  repeat' (first | ((show W _ _ _ _); first | refine W.seq fun K hK => ?_ | refine W.block ?_ | ((first | refine wR ?_ | refine wD ?_ | refine W.skip ?_ | refine W.exit ?_ | refine W.ret (Post.ret ?_)); simp only [go_sem, reduceCtorEq]) | refine wT ?_ | refine wF ?_ | refine wC (fun h => ?_) (fun h => ?_)) | ((show AX _ _ _ _ _); (first | refine aP ?_ | refine aF ?_); simp only [go_sem, reduceCtorEq]) | refine iK ?_ | refine aI2 ?_ | (refine hK _ ?_; clear hK K) | clear hK K)
  refine W.loopF (T := fun i : Nat => { t := [(1, .c (.ptr 0 0)), (2, ft (.bool false)), (3, ft (.int .i64 (i : Nat)))], h := [(0, .box 27 ((stoA s).map .im))], nx := 1, ex := [], nt := 29 })
    (Inv := fun i => i ≤ s.ts.length ∧ shortT s i = true) (μ := fun i => s.ts.length - i) (x0 := 0) (Fits.fit [(0, 0)] [1, 2, 3] 1 rfl rfl Fits.rfl) ⟨Nat.zero_le _, by simp [shortT]⟩ ?_
  rintro i ⟨hi, hv⟩ KL hKL
  by_cases hlt : i < s.ts.length
  · obtain ⟨x, hx, hm, hd⟩ := drop_at hlt
    have e1 : decide ((i : Int) < s.ts.length) = true := by simp; omega
    have hw := w64s i (by omega)
    have hT : shortT s (i + 1) = (shortT s i && decide (x.cs.length ≤ 8)) := by simp [shortT, List.take_add_one, hx]
    cases h8 : decide ((x.cs.length : Int) > 8) with
    | true =>
      have hf : shortS s = false := by
        have : shortT s s.ts.length = false := by
          simp only [shortT, List.take_length, List.all_eq_false]
          exact ⟨x, hm, by simp at h8 ⊢; omega⟩
        simp [shortS, this]
      rw [hf]
      clear hKL
      simp only [stoA, List.map]
      repeat' (first | ((show W _ _ _ _); first | refine W.seq fun K hK => ?_ | refine W.block ?_ | ((first | refine wR ?_ | refine wD ?_ | refine W.skip ?_ | refine W.exit ?_ | refine W.ret (Post.ret ?_)); simp only [go_sem, reduceCtorEq, List.getElem?_map, hx, treA, e1, hw, List.length_map, h8]) | refine wT ?_ | refine wF ?_ | refine wC (fun h => ?_) (fun h => ?_)) | ((show AX _ _ _ _ _); (first | refine aP ?_ | refine aF ?_); simp only [go_sem, reduceCtorEq, List.getElem?_map, hx, treA, e1, hw, List.length_map, h8]) | refine iK ?_ | refine aI2 ?_ | (refine hK _ ?_; clear hK K) | clear hK K)
    | false =>
      simp only [stoA, List.map] at hKL ⊢
      repeat' (first | ((show W _ _ _ _); first | refine W.seq fun K hK => ?_ | refine W.block ?_ | ((first | refine wR ?_ | refine wD ?_ | refine W.skip ?_ | refine W.exit ?_ | refine W.ret (Post.ret ?_)); simp only [go_sem, reduceCtorEq, List.getElem?_map, hx, treA, e1, hw, List.length_map, h8]) | refine wT ?_ | refine wF ?_ | refine wC (fun h => ?_) (fun h => ?_)) | ((show AX _ _ _ _ _); (first | refine aP ?_ | refine aF ?_); simp only [go_sem, reduceCtorEq, List.getElem?_map, hx, treA, e1, hw, List.length_map, h8]) | refine iK ?_ | refine aI2 ?_ | (refine hK _ ?_; clear hK K) | clear hK K)
      refine hKL.to (i + 1) ⟨by omega, by rw [hT, hv]; simp at h8 ⊢; omega⟩ (by omega) (Fits.fit [(0, 0)] [1, 2, 3] 1 rfl rfl Fits.rfl)
  · obtain rfl : i = s.ts.length := by omega
    have e1 : decide ((s.ts.length : Int) < s.ts.length) = false := by simp
    clear hKL
    simp only [stoA, List.map]
    have e2 : decide ((s.ts.length : Int) ≤ 3) = decide (s.ts.length ≤ 3) := by congr 1; simp; omega
    have e3 : decide ((s.sy.length : Int) ≤ 6) = decide (s.sy.length ≤ 6) := by congr 1; simp; omega
    have hS : shortS s = (decide (s.ts.length ≤ 3) && decide (s.sy.length ≤ 6)) := by simp [shortS, hv]
    cases h3 : decide (s.ts.length ≤ 3) <;> (rw [h3] at e2 hS)
    · rw [Bool.false_and] at hS
      repeat' (first | ((show W _ _ _ _); first | refine W.seq fun K hK => ?_ | refine W.block ?_ | ((first | refine wR ?_ | refine wD ?_ | refine W.skip ?_ | refine W.exit ?_ | refine W.ret (Post.ret ?_)); simp only [go_sem, reduceCtorEq, e1, List.length_map, e2, hS]) | refine wT ?_ | refine wF ?_ | refine wC (fun h => ?_) (fun h => ?_)) | ((show AX _ _ _ _ _); (first | refine aP ?_ | refine aF ?_); simp only [go_sem, reduceCtorEq, e1, List.length_map, e2, hS]) | refine iK ?_ | refine aI2 ?_ | (refine hK _ ?_; clear hK K) | clear hK K)
    · rw [Bool.true_and] at hS
      repeat' (first | ((show W _ _ _ _); first | refine W.seq fun K hK => ?_ | refine W.block ?_ | ((first | refine wR ?_ | refine wD ?_ | refine W.skip ?_ | refine W.exit ?_ | refine W.ret (Post.ret ?_)); simp only [go_sem, reduceCtorEq, e1, List.length_map, e2, e3, hS]) | refine wT ?_ | refine wF ?_ | refine wC (fun h => ?_) (fun h => ?_)) | ((show AX _ _ _ _ _); (first | refine aP ?_ | refine aF ?_); simp only [go_sem, reduceCtorEq, e1, List.length_map, e2, e3, hS]) | refine iK ?_ | refine aI2 ?_ | (refine hK _ ?_; clear hK K) | clear hK K)
theorem tid_c (s : Sto) (hs : s.ok) (k : Nat) (hk : k < s.ts.length) : PCall Tryz.prog 47 [stoT s, ft (.int .i64 (k : Nat))] (ft (.int .i64 (tidN s k : Nat))) := by
  obtain ⟨t, hx, hm, hd⟩ := drop_at hk
  have hl := hs.2.2.2.2.2.2
  have q1 := w64n (t.slot % 64) (by omega)
  have q2 : IntKind.i64.wrap (((t.slot % 64 : Nat) : Int) * 2 ^ min (Int.toNat 20) 64) = (((t.slot % 64) * 1048576 : Nat) : Int) := by rw [show (((t.slot % 64 : Nat) : Int) * 2 ^ min (Int.toNat 20) 64) = (((t.slot % 64) * 1048576 : Nat) : Int) by rw [Int.natCast_mul]; rfl]; exact w64n _ (by omega)
  have q3 : IntKind.i64.wrap ((((t.slot % 64) * 1048576 : Nat) : Int) + 1) = (((t.slot % 64) * 1048576 + 1 : Nat) : Int) := w64n ((t.slot % 64) * 1048576 + 1) (by omega)
  have q4 : IntKind.i64.wrap ((((t.slot % 64) * 1048576 + 1 : Nat) : Int) + (k : Nat)) = (((t.slot % 64) * 1048576 + 1 + k : Nat) : Int) := w64n ((t.slot % 64) * 1048576 + 1 + k) (by have := Nat.mod_lt t.slot (show 0 < 64 by omega); omega)
  have e1 : tidN s k = (t.slot % 64) * 1048576 + 1 + k := by simp [tidN, hx]
  rw [e1]
  simp only [stoT, stoA, List.map]
  refine PCall.intro (nt := 17) (rs := [.tmp 4]) Tryz.func47 rfl ⟨by kernel_rfl, by kernel_rfl, by kernel_rfl⟩ (by simp) ?_
  rintro ⟨P, w0, ok0, may, np, pblk⟩ rfl rfl
  repeat' (first | ((show W _ _ _ _); first | refine W.seq fun K hK => ?_ | refine W.block ?_ | ((first | refine wR ?_ | refine wD ?_ | refine W.skip ?_ | refine W.exit ?_ | refine W.ret (Post.ret ?_)); simp only [go_sem, reduceCtorEq, List.getElem?_map, hx, treA, tm64, q1, q2, q3, q4]) | refine wT ?_ | refine wF ?_ | refine wC (fun h => ?_) (fun h => ?_)) | ((show AX _ _ _ _ _); (first | refine aP ?_ | refine aF ?_ | refine aI ?_); simp only [go_sem, reduceCtorEq, List.getElem?_map, hx, treA, tm64, q1, q2, q3, q4]) | refine iK ?_ | refine aI2 ?_ | (refine hK _ ?_; clear hK K) | clear hK K)
theorem kind_c (c : Cal) : PCall Tryz.prog 113 [calT c] (ft (.int .i64 (kdC c : Nat))) := by
  have q1 := w64n (c.ki % 5) (by omega)
  have q2 : IntKind.i64.wrap (1 + ((c.ki % 5 : Nat) : Int)) = (kdC c : Nat) := w64n (1 + c.ki % 5) (by omega)
  simp only [calT, calA, List.map]
  refine PCall.intro (nt := 8) (rs := [.tmp 2]) Tryz.func113 rfl ⟨by kernel_rfl, by kernel_rfl, by kernel_rfl⟩ (by simp) ?_
  rintro ⟨P, w0, ok0, may, np, pblk⟩ rfl rfl
  repeat' (first | ((show W _ _ _ _); first | refine W.seq fun K hK => ?_ | refine W.block ?_ | ((first | refine wR ?_ | refine wD ?_ | refine W.skip ?_ | refine W.exit ?_ | refine W.ret (Post.ret ?_)); simp only [go_sem, reduceCtorEq, tm5, q1, q2]) | refine wT ?_ | refine wF ?_ | refine wC (fun h => ?_) (fun h => ?_)) | ((show AX _ _ _ _ _); (first | refine aP ?_ | refine aF ?_); simp only [go_sem, reduceCtorEq, tm5, q1, q2]) | refine iK ?_ | refine aI2 ?_ | (refine hK _ ?_; clear hK K) | clear hK K)
theorem off_c (s : Sto) (hs : s.ok) (clk : Nat) (h1 : 1 ≤ clk) (h4 : clk ≤ 4) : PCall Tryz.prog 82 [stoT s, ft (.int .i64 (clk : Nat))] (ft (.int .i64 (offC s clk))) := by
  have hA : Tryz.prog.underlying 24 = some (.array 4 23) := by kernel_rfl
  have hE := tE23
  simp only [stoT, stoA, List.map]
  have g : ∀ n : Int, i8 n → IntKind.i64.wrap n = n := fun n hn => w64 (by unfold i8 at hn; omega) (by unfold i8 at hn; omega)
  obtain ⟨_, g1, g2, g3, g4, _⟩ := hs
  have g1 := g _ g1
  have g2 := g _ g2
  have g3 := g _ g3
  have g4 := g _ g4
  clear g
  rcases (by omega : clk = 1 ∨ clk = 2 ∨ clk = 3 ∨ clk = 4) with rfl | rfl | rfl | rfl
  ·
    have hN : EL Tryz.prog 24 = none := by kernel_rfl
    have hm : Int.tmod (IntKind.u64.wrap (IntKind.u64.wrap ((1 : Nat) : Int) + 3)) 4 = 0 := by decide
    have hx : 1 + Int.toNat 0 * 1 = 1 := (rfl)
    have ho : offC s 1 = Int.tmod s.o1 21 := rfl
    refine PCall.intro (nt := 14) (rs := [.tmp 4]) Tryz.func82 rfl ⟨by kernel_rfl, by kernel_rfl, by kernel_rfl⟩ (by simp) ?_
    rintro ⟨P, w0, ok0, may, np, pblk⟩ rfl rfl
    repeat' (first | ((show W _ _ _ _); first | refine W.seq fun K hK => ?_ | refine W.block ?_ | ((first | refine wR ?_ | refine wD ?_ | refine W.skip ?_ | refine W.exit ?_ | refine W.ret (Post.ret ?_)); simp only [go_sem, reduceCtorEq, ho, g1, g2, g3, g4, hm, hN, hx]) | refine wT ?_ | refine wF ?_ | refine wC (fun h => ?_) (fun h => ?_)) | ((show AX _ _ _ _ _); (first | refine aP ?_ | refine aF ?_ | refine aV ?_); simp only [go_sem, reduceCtorEq, ho, g1, g2, g3, g4, hm, hN, hx]) | refine iK ?_ | refine aI2 ?_ | (refine hK _ ?_; clear hK K) | clear hK K)
  ·
    have hN : EL Tryz.prog 24 = none := by kernel_rfl
    have hm : Int.tmod (IntKind.u64.wrap (IntKind.u64.wrap ((2 : Nat) : Int) + 3)) 4 = 1 := by decide
    have hx : 1 + Int.toNat 1 * 1 = 2 := (rfl)
    have ho : offC s 2 = Int.tmod s.o2 21 := rfl
    refine PCall.intro (nt := 14) (rs := [.tmp 4]) Tryz.func82 rfl ⟨by kernel_rfl, by kernel_rfl, by kernel_rfl⟩ (by simp) ?_
    rintro ⟨P, w0, ok0, may, np, pblk⟩ rfl rfl
    repeat' (first | ((show W _ _ _ _); first | refine W.seq fun K hK => ?_ | refine W.block ?_ | ((first | refine wR ?_ | refine wD ?_ | refine W.skip ?_ | refine W.exit ?_ | refine W.ret (Post.ret ?_)); simp only [go_sem, reduceCtorEq, ho, g1, g2, g3, g4, hm, hN, hx]) | refine wT ?_ | refine wF ?_ | refine wC (fun h => ?_) (fun h => ?_)) | ((show AX _ _ _ _ _); (first | refine aP ?_ | refine aF ?_ | refine aV ?_); simp only [go_sem, reduceCtorEq, ho, g1, g2, g3, g4, hm, hN, hx]) | refine iK ?_ | refine aI2 ?_ | (refine hK _ ?_; clear hK K) | clear hK K)
  ·
    have hN : EL Tryz.prog 24 = none := by kernel_rfl
    have hm : Int.tmod (IntKind.u64.wrap (IntKind.u64.wrap ((3 : Nat) : Int) + 3)) 4 = 2 := by decide
    have hx : 1 + Int.toNat 2 * 1 = 3 := (rfl)
    have ho : offC s 3 = Int.tmod s.o3 21 := rfl
    refine PCall.intro (nt := 14) (rs := [.tmp 4]) Tryz.func82 rfl ⟨by kernel_rfl, by kernel_rfl, by kernel_rfl⟩ (by simp) ?_
    rintro ⟨P, w0, ok0, may, np, pblk⟩ rfl rfl
    repeat' (first | ((show W _ _ _ _); first | refine W.seq fun K hK => ?_ | refine W.block ?_ | ((first | refine wR ?_ | refine wD ?_ | refine W.skip ?_ | refine W.exit ?_ | refine W.ret (Post.ret ?_)); simp only [go_sem, reduceCtorEq, ho, g1, g2, g3, g4, hm, hN, hx]) | refine wT ?_ | refine wF ?_ | refine wC (fun h => ?_) (fun h => ?_)) | ((show AX _ _ _ _ _); (first | refine aP ?_ | refine aF ?_ | refine aV ?_); simp only [go_sem, reduceCtorEq, ho, g1, g2, g3, g4, hm, hN, hx]) | refine iK ?_ | refine aI2 ?_ | (refine hK _ ?_; clear hK K) | clear hK K)
  ·
    have hN : EL Tryz.prog 24 = none := by kernel_rfl
    have hm : Int.tmod (IntKind.u64.wrap (IntKind.u64.wrap ((4 : Nat) : Int) + 3)) 4 = 3 := by decide
    have hx : 1 + Int.toNat 3 * 1 = 4 := (rfl)
    have ho : offC s 4 = Int.tmod s.o4 21 := rfl
    refine PCall.intro (nt := 14) (rs := [.tmp 4]) Tryz.func82 rfl ⟨by kernel_rfl, by kernel_rfl, by kernel_rfl⟩ (by simp) ?_
    rintro ⟨P, w0, ok0, may, np, pblk⟩ rfl rfl
    repeat' (first | ((show W _ _ _ _); first | refine W.seq fun K hK => ?_ | refine W.block ?_ | ((first | refine wR ?_ | refine wD ?_ | refine W.skip ?_ | refine W.exit ?_ | refine W.ret (Post.ret ?_)); simp only [go_sem, reduceCtorEq, ho, g1, g2, g3, g4, hm, hN, hx]) | refine wT ?_ | refine wF ?_ | refine wC (fun h => ?_) (fun h => ?_)) | ((show AX _ _ _ _ _); (first | refine aP ?_ | refine aF ?_ | refine aV ?_); simp only [go_sem, reduceCtorEq, ho, g1, g2, g3, g4, hm, hN, hx]) | refine iK ?_ | refine aI2 ?_ | (refine hK _ ?_; clear hK K) | clear hK K)
end Go.Proofs.YtegcmciglakicaaGreat
namespace Go.Proofs.YtegcmciglakicaaGreat
open Go.RowKit Go.Exe
set_option linter.unusedVariables false
set_option linter.unusedSimpArgs false
set_option maxHeartbeats 8000000
set_option maxRecDepth 100000
def zoneS (n : Nat) : ByteArray := if n = 0 then ⟨#[97]⟩ else if n = 1 then ⟨#[98]⟩ else ⟨#[119, 101, 115, 116, 32, 49]⟩
def attsC (c : Cal) : List Att := [⟨⟨#[111, 107]⟩, 3, .empty, ((c.ta / 4 % 2 : Nat) : Int)⟩, ⟨⟨#[115, 105, 122, 101]⟩, 2, .empty, (c.ta : Int) - 100⟩, ⟨⟨#[122, 111, 110, 101]⟩, 1, zoneS (c.ta / 8 % 3), 0⟩].take (c.ta % 4)
attribute [local irreducible] W AX Run RunD AStep AOp AOpX AStB AStH AStG Fits PCall GCall PostG Post Stop
theorem attrs_c (c : Cal) (hc : c.ok) : PCall Tryz.prog 114 [calT c] (.c (.im (.sl 150 ((attsC c).map attA)))) := by
  have hta : c.ta < 256 := hc.2.2.2.2.2.2.2.2.2
  have q1 := w64n (c.ta / 4 % 2) (by omega)
  have q2 := w64n c.ta (by omega)
  have q4 := w8n (c.ta / 4) (by omega)
  have q5 := w8n (c.ta / 8) (by omega)
  have q3 : IntKind.i64.wrap ((c.ta : Int) - 100) = (c.ta : Int) - 100 := w64 (by omega) (by omega)
  have s1 : ([[.im (.flat (.string ⟨#[97]⟩))], [.im (.flat (.string ⟨#[98]⟩))], [.im (.flat (.string ⟨#[119, 101, 115, 116, 32, 49]⟩))]] : List (List Cell))[c.ta / 8 % 3]? = some [.im (.flat (.string (zoneS (c.ta / 8 % 3))))] := by
    rcases (by omega : c.ta / 8 % 3 = 0 ∨ c.ta / 8 % 3 = 1 ∨ c.ta / 8 % 3 = 2) with h | h | h <;> simp [h, zoneS]
  have d1 : decide (c.ta / 8 % 3 < 3) = true := by simp; omega
  simp only [calT, calA, List.map]
  rcases (by omega : c.ta % 4 = 0 ∨ c.ta % 4 = 1 ∨ c.ta % 4 = 2 ∨ c.ta % 4 = 3) with h | h | h | h
  all_goals
    simp only [attsC, h, List.take_succ_cons, List.take_zero, List.map_cons, List.map_nil, attA]
    refine PCall.intro (nt := 32) (rs := [.tmp 2]) Tryz.func114 rfl ⟨by kernel_rfl, by kernel_rfl, by kernel_rfl⟩ (by simp) ?_
    rintro ⟨P, w0, ok0, may, np, pblk⟩ rfl rfl
    repeat' (first | ((show W _ _ _ _); first | refine W.seq fun K hK => ?_ | refine W.block ?_ | ((first | refine wR ?_ | refine wD ?_ | refine W.skip ?_ | refine W.exit ?_ | refine W.ret (Post.ret ?_)); simp only [go_sem, reduceCtorEq, td4, td8, tm2, tm3, tm4, q1, q2, q3, q4, q5, s1, d1, h]) | refine wT ?_ | refine wF ?_ | refine wC (fun h => ?_) (fun h => ?_)) | ((show AX _ _ _ _ _); (first | refine aP ?_ | refine aF ?_); simp only [go_sem, reduceCtorEq, td4, td8, tm2, tm3, tm4, q1, q2, q3, q4, q5, s1, d1, h]) | refine iK ?_ | refine aI2 ?_ | (refine hK _ ?_; clear hK K) | clear hK K)
end Go.Proofs.YtegcmciglakicaaGreat
namespace Go.Proofs.YtegcmciglakicaaGreat
open Go.RowKit Go.Exe
set_option linter.unusedVariables false
set_option linter.unusedSimpArgs false
set_option maxHeartbeats 8000000
set_option maxRecDepth 100000
def nA (n : Nat) : List AV := [.flat (.int .i64 (n : Nat))]
abbrev natsT (l : List Nat) : TV := .c (.im (.sl 3 (l.map nA)))
/-- The true start of the call with an index, if those before it are known. -/
def frm (t : Tre) (c : Cal) (i : Nat) (st : List Nat) : Nat := (if c.pa % (i + 1) < i then st.getD (c.pa % (i + 1)) 0 else 1000 + t.start % 32) + (if 0 < i then c.wa % 32 else 0)
def stF (t : Tre) : Nat → List Nat
  | 0 => []
  | i + 1 => stF t i ++ (t.cs[i]?.toList.map fun c => frm t c i (stF t i))
def enF (t : Tre) : Nat → List Nat
  | 0 => []
  | i + 1 => enF t i ++ (t.cs[i]?.toList.map fun c => frm t c i (stF t i) + c.lo % 32)
theorem stF_at {t : Tre} {i : Nat} {c : Cal} (h : t.cs[i]? = some c) : stF t (i + 1) = stF t i ++ [frm t c i (stF t i)] := by simp [stF, h]
theorem enF_at {t : Tre} {i : Nat} {c : Cal} (h : t.cs[i]? = some c) : enF t (i + 1) = enF t i ++ [frm t c i (stF t i) + c.lo % 32] := by simp [enF, h]
theorem stF_len (t : Tre) : ∀ i, i ≤ t.cs.length → (stF t i).length = i
  | 0, _ => rfl
  | i + 1, h => by simp [stF, stF_len t i (by omega), List.getElem?_eq_getElem (show i < t.cs.length by omega)]
theorem enF_len (t : Tre) : ∀ i, i ≤ t.cs.length → (enF t i).length = i
  | 0, _ => rfl
  | i + 1, h => by simp [enF, enF_len t i (by omega), List.getElem?_eq_getElem (show i < t.cs.length by omega)]
theorem stF_le (t : Tre) : ∀ i, i ≤ t.cs.length → ∀ x ∈ stF t i, x ≤ 1031 + 31 * i
  | 0, _, x, hx => by simp [stF] at hx
  | i + 1, h, x, hx => by
    have ih := stF_le t i (by omega)
    rw [stF_at (List.getElem?_eq_getElem (show i < t.cs.length by omega))] at hx
    rcases List.mem_append.1 hx with hx | hx
    · have := ih x hx; omega
    · simp only [List.mem_singleton] at hx
      subst hx
      unfold frm
      have h1 : (stF t i).getD (t.cs[i].pa % (i + 1)) 0 ≤ 1031 + 31 * i := by
        rw [List.getD_eq_getElem?_getD]
        cases e : (stF t i)[t.cs[i].pa % (i + 1)]? with
        | none => simp
        | some y => exact ih y (List.mem_of_getElem? e)
      repeat' split
      all_goals omega
theorem enF_le (t : Tre) : ∀ i, i ≤ t.cs.length → ∀ x ∈ enF t i, x ≤ 1062 + 31 * i
  | 0, _, x, hx => by simp [enF] at hx
  | i + 1, h, x, hx => by
    have hc := List.getElem?_eq_getElem (show i < t.cs.length by omega)
    rw [enF_at hc] at hx
    rcases List.mem_append.1 hx with hx | hx
    · have := enF_le t i (by omega) x hx; omega
    · simp only [List.mem_singleton] at hx
      have := stF_le t (i + 1) h (frm t t.cs[i] i (stF t i)) (by rw [stF_at hc]; simp)
      omega
/-- A client without an error waits for its servers. -/
def waits (t : Tre) (i : Nat) : Bool := match t.cs[i]? with
  | some c => (match t.cs[c.pa % (i + 1)]? with
    | some d => decide (c.pa % (i + 1) < i) && decide (kdC c = 3) && decide (kdC d = 2) && !d.fa
    | none => false)
  | none => false
def parN (t : Tre) (i : Nat) : Nat := match t.cs[i]? with | some c => c.pa % (i + 1) | none => 0
def stepE (t : Tre) (L : List Nat) (i : Nat) : List Nat := if waits t i then L.set (parN t i) (max (L.getD (parN t i) 0) (L.getD i 0)) else L
def enG (t : Tre) : Nat → List Nat → List Nat
  | 0, L => L
  | i + 1, L => enG t i (stepE t L (i + 1))
def stL (t : Tre) : List Nat := stF t t.cs.length
def enL (t : Tre) : List Nat := enG t (t.cs.length - 1) (enF t t.cs.length)
theorem nA_app (a b : List Nat) : imR (a.map nA) ++ imR (b.map nA) = imR ((a ++ b).map nA) := by simp [imR]
theorem wadd (a b : Nat) (h : a + b < 9223372036854775808) : IntKind.i64.wrap ((a : Int) + (b : Int)) = ((a + b : Nat) : Int) := by rw [← Int.natCast_add]; exact w64n _ h
attribute [local irreducible] W AX Run RunD AStep AOp AOpX AStB AStH AStG Fits PCall GCall PostG Post Stop
theorem times_c (t : Tre) (ht : t.ok) (h0 : 0 < t.cs.length) : PCall Tryz.prog 80 [treT t] (.t [(false, [.im (.sl 3 ((stL t).map nA))]), (false, [.im (.sl 3 ((enL t).map nA))])]) := by
  have h8 := ht.2.2.2
  have ck := kind_c
  simp only [treT, treA, List.map]
  refine PCall.intro (nt := 123) (rs := [.tmp 2, .tmp 3]) Tryz.func80 rfl ⟨by kernel_rfl, by kernel_rfl, by kernel_rfl⟩ (by simp) ?_
  rintro ⟨P, w0, ok0, may, np, pblk⟩ rfl rfl
  repeat' (first | ((show W _ _ _ _); first | refine W.seq fun K hK => ?_ | refine W.block ?_ | ((first | refine wR ?_ | refine wD ?_ | refine W.skip ?_ | refine W.exit ?_ | refine W.ret (Post.ret ?_)); simp only [go_sem, reduceCtorEq]) | refine wT ?_ | refine wF ?_ | refine wC (fun h => ?_) (fun h => ?_)) | ((show AX _ _ _ _ _); (first | refine aP ?_ | refine aF ?_); simp only [go_sem, reduceCtorEq]) | refine iK ?_ | refine aI2 ?_ | (refine hK _ ?_; clear hK K) | clear hK K)
  refine W.loopF (T := fun i : Nat => { t := [(1, .c (.ptr 0 0)), (2, .c (.ref 1)), (3, .c (.ref 2)), (4, ft (.int .i64 (i : Nat)))], h := [(0, .box 91 ((treA t).map .im)), (1, .row 3 (imR ((stF t i).map nA))), (2, .row 3 (imR ((enF t i).map nA)))], nx := 3, ex := [], nt := 123 })
    (Inv := fun i => i ≤ t.cs.length) (μ := fun i => t.cs.length - i) (x0 := 0) ?_ (Nat.zero_le _) ?_
  · refine Fits.adopt 2 98 3 rfl rfl rfl tE3 rfl ?_
    refine Fits.adopt 3 99 3 rfl rfl rfl tE3 rfl ?_
    refine Fits.fit [(0, 0), (98, 1), (99, 2)] [1, 2, 3, 4] 3 rfl rfl ?_
    simp only [go_sem, stF, enF, List.map_nil, imR_nil]
    exact Fits.rfl
  rintro i hi KL hKL
  by_cases hlt : i < t.cs.length
  · obtain ⟨x, hx, hm, hd⟩ := drop_at hlt
    have hxo := ht.2.2.1 x hm
    obtain ⟨b1, b2, b3, b4, b5, b6, b7, b8, b9, b10⟩ := hxo
    have e1 : decide ((i : Int) < t.cs.length) = true := by simp; omega
    have hw := w64s i (by omega)
    have q1 := w64n (t.start % 32) (by omega)
    have q2 : IntKind.i64.wrap (1000 + ((t.start % 32 : Nat) : Int)) = ((1000 + t.start % 32 : Nat) : Int) := wadd 1000 (t.start % 32) (by omega)
    have q3 := w64n x.pa (by omega)
    have q4 : Int.tmod (x.pa : Int) ((i + 1 : Nat) : Int) = ((x.pa % (i + 1) : Nat) : Int) := tm _ _
    have q5 := w64n (x.wa % 32) (by omega)
    have q6 := w64n (x.lo % 32) (by omega)
    have sl := stF_len t i hi
    have el := enF_len t i hi
    have hat1 := stF_at hx
    have hat2 := enF_at hx
    have bl : ∀ F : Nat, imR ((stF t i ++ [F]).map nA) = imR ((stF t i).map nA) ++ [[.im (.flat (.int .i64 (F : Nat)))]] := fun F => by simp [imR, imL, nA]
    have bl2 : ∀ F : Nat, imR ((enF t i ++ [F]).map nA) = imR ((enF t i).map nA) ++ [[.im (.flat (.int .i64 (F : Nat)))]] := fun F => by simp [imR, imL, nA]
    clear ck
    simp only [treA, List.map] at hKL ⊢
    by_cases hp : x.pa % (i + 1) < i
    · have hvl : x.pa % (i + 1) < (stF t i).length := by omega
      have hv : (stF t i)[x.pa % (i + 1)]? = some (stF t i)[x.pa % (i + 1)] := List.getElem?_eq_getElem hvl
      have hvb := stF_le t i hi _ (List.mem_of_getElem? hv)
      generalize (stF t i)[x.pa % (i + 1)] = v at hv hvb
      have hF : frm t x i (stF t i) = v + x.wa % 32 := by simp [frm, hp, show 0 < i by omega, hv]
      rw [hF] at hat1
      rw [hF] at hat2
      have e2 : decide (((x.pa % (i + 1) : Nat) : Int) < i) = true := decide_eq_true (Int.ofNat_lt.2 hp)
      have e3 : decide ((i : Int) > 0) = true := by simp; omega
      have e4 : decide (x.pa % (i + 1) < i) = true := by simp; omega
      have q7 := wadd (v) (x.wa % 32) (by omega)
      have q8 := wadd (v + x.wa % 32) (x.lo % 32) (by omega)
      repeat' (first | ((show W _ _ _ _); first | refine W.seq fun K hK => ?_ | refine W.block ?_ | ((first | refine wR ?_ | refine wD ?_ | refine W.skip ?_ | refine W.exit ?_ | refine W.ret (Post.ret ?_)); simp only [go_sem, reduceCtorEq, List.getElem?_map, hx, calA, e1, hw, List.length_map, imR_len, tm32, q1, q2, q3, q4, q5, q6, e2, e3, e4, sl, el, hv, nA, imL, q7, q8]) | refine wT ?_ | refine wF ?_ | refine wC (fun h => ?_) (fun h => ?_)) | ((show AX _ _ _ _ _); (first | refine aP ?_ | refine aF ?_); simp only [go_sem, reduceCtorEq, List.getElem?_map, hx, calA, e1, hw, List.length_map, imR_len, tm32, q1, q2, q3, q4, q5, q6, e2, e3, e4, sl, el, hv, nA, imL, q7, q8]) | refine iK ?_ | refine aI2 ?_ | (refine hK _ ?_; clear hK K) | clear hK K)
      refine hKL.to (i + 1) (by omega) (by omega) (Fits.fit [(0, 0), (48, 1), (57, 2)] [1, 2, 3, 4] 3 rfl rfl ?_)
      simp only [go_sem, hat1, hat2, bl, bl2]
      exact Fits.rfl
    · have e2 : decide (((x.pa % (i + 1) : Nat) : Int) < i) = false := decide_eq_false fun h => hp (Int.ofNat_lt.1 h)
      by_cases h0 : 0 < i
      · have e3 : decide ((i : Int) > 0) = true := by simp; omega
        have hF : frm t x i (stF t i) = 1000 + t.start % 32 + x.wa % 32 := by simp [frm, hp, h0]
        rw [hF] at hat1 hat2
        have q7 := wadd (1000 + t.start % 32) (x.wa % 32) (by omega)
        have q8 := wadd (1000 + t.start % 32 + x.wa % 32) (x.lo % 32) (by omega)
        repeat' (first | ((show W _ _ _ _); first | refine W.seq fun K hK => ?_ | refine W.block ?_ | ((first | refine wR ?_ | refine wD ?_ | refine W.skip ?_ | refine W.exit ?_ | refine W.ret (Post.ret ?_)); simp only [go_sem, reduceCtorEq, List.getElem?_map, hx, calA, e1, hw, List.length_map, imR_len, tm32, q1, q2, q3, q4, q5, q6, e2, e3, sl, el, nA, imL, q7, q8]) | refine wT ?_ | refine wF ?_ | refine wC (fun h => ?_) (fun h => ?_)) | ((show AX _ _ _ _ _); (first | refine aP ?_ | refine aF ?_); simp only [go_sem, reduceCtorEq, List.getElem?_map, hx, calA, e1, hw, List.length_map, imR_len, tm32, q1, q2, q3, q4, q5, q6, e2, e3, sl, el, nA, imL, q7, q8]) | refine iK ?_ | refine aI2 ?_ | (refine hK _ ?_; clear hK K) | clear hK K)
        refine hKL.to (i + 1) (by omega) (by omega) (Fits.fit [(0, 0), (43, 1), (52, 2)] [1, 2, 3, 4] 3 rfl rfl ?_)
        simp only [go_sem, hat1, hat2, bl, bl2]
        exact Fits.rfl
      · have e3 : decide ((i : Int) > 0) = false := by simp; omega
        have hF : frm t x i (stF t i) = 1000 + t.start % 32 := by simp [frm, hp, h0]
        rw [hF] at hat1 hat2
        have q8 := wadd (1000 + t.start % 32) (x.lo % 32) (by omega)
        repeat' (first | ((show W _ _ _ _); first | refine W.seq fun K hK => ?_ | refine W.block ?_ | ((first | refine wR ?_ | refine wD ?_ | refine W.skip ?_ | refine W.exit ?_ | refine W.ret (Post.ret ?_)); simp only [go_sem, reduceCtorEq, List.getElem?_map, hx, calA, e1, hw, List.length_map, imR_len, tm32, q1, q2, q3, q4, q5, q6, e2, e3, sl, el, nA, imL, q8]) | refine wT ?_ | refine wF ?_ | refine wC (fun h => ?_) (fun h => ?_)) | ((show AX _ _ _ _ _); (first | refine aP ?_ | refine aF ?_); simp only [go_sem, reduceCtorEq, List.getElem?_map, hx, calA, e1, hw, List.length_map, imR_len, tm32, q1, q2, q3, q4, q5, q6, e2, e3, sl, el, nA, imL, q8]) | refine iK ?_ | refine aI2 ?_ | (refine hK _ ?_; clear hK K) | clear hK K)
        refine hKL.to (i + 1) (by omega) (by omega) (Fits.fit [(0, 0), (36, 1), (45, 2)] [1, 2, 3, 4] 3 rfl rfl ?_)
        simp only [go_sem, hat1, hat2, bl, bl2]
        exact Fits.rfl
  obtain rfl : i = t.cs.length := by omega
  have e1 : decide ((t.cs.length : Int) < t.cs.length) = false := by simp
  clear hKL
  have e2 : IntKind.i64.wrap ((t.cs.length : Int) - 1) = ((t.cs.length - 1 : Nat) : Int) := by rw [w64 (by omega) (by omega)]; omega
  have hsl := stF_len t _ hi
  simp only [treA, List.map]
  repeat' (first | ((show W _ _ _ _); first | refine W.seq fun K hK => ?_ | refine W.block ?_ | ((first | refine wR ?_ | refine wD ?_ | refine W.skip ?_ | refine W.exit ?_ | refine W.ret (Post.ret ?_)); simp only [go_sem, reduceCtorEq, e1, List.length_map, e2]) | refine wT ?_ | refine wF ?_ | refine wC (fun h => ?_) (fun h => ?_)) | ((show AX _ _ _ _ _); (first | refine aP ?_ | refine aF ?_); simp only [go_sem, reduceCtorEq, e1, List.length_map, e2]) | refine iK ?_ | refine aI2 ?_ | (refine hK _ ?_; clear hK K) | clear hK K)
  refine W.loopF (T := fun p : Nat × List Nat => { t := [(1, .c (.ptr 0 0)), (2, .c (.ref 1)), (3, .c (.ref 2)), (8, ft (.int .i64 (p.1 : Nat)))], h := [(0, .box 91 ((treA t).map .im)), (1, .row 3 (imR ((stL t).map nA))), (2, .row 3 (imR (p.2.map nA)))], nx := 3, ex := [], nt := 123 })
    (Inv := fun p => p.1 ≤ t.cs.length - 1 ∧ p.2.length = t.cs.length ∧ (∀ x ∈ p.2, x ≤ 2000) ∧ enG t p.1 p.2 = enL t) (μ := fun p => p.1) (x0 := (t.cs.length - 1, enF t t.cs.length)) (Fits.fit [(0, 0), (1, 1), (2, 2)] [1, 2, 3, 8] 3 rfl rfl ?_) ⟨Nat.le_refl _, enF_len t _ hi, fun x hx => by have := enF_le t _ hi x hx; omega, rfl⟩ ?_
  · simp only [go_sem, treA, stL, List.map]
    exact Fits.rfl
  rintro ⟨n, L⟩ ⟨hn, hl, hb, hinv⟩ KL hKL
  dsimp only at hn hl hb hinv hKL ⊢
  rcases n with _ | m
  · have e3 : decide (((0 : Nat) : Int) > 0) = false := by simp
    have hL : L = enL t := hinv
    subst hL
    clear hKL
    repeat' (first | ((show W _ _ _ _); first | refine W.seq fun K hK => ?_ | refine W.block ?_ | ((first | refine wR ?_ | refine wD ?_ | refine W.skip ?_ | refine W.exit ?_ | refine W.ret (Post.ret ?_)); simp only [go_sem, reduceCtorEq, e3]) | refine wT ?_ | refine wF ?_ | refine wC (fun h => ?_) (fun h => ?_)) | ((show AX _ _ _ _ _); (first | refine aP ?_ | refine aF ?_); simp only [go_sem, reduceCtorEq, e3]) | refine iK ?_ | refine aI2 ?_ | (refine hK _ ?_; clear hK K) | clear hK K)
  have e3 : decide (((m + 1 : Nat) : Int) > 0) = true := by simp
  obtain ⟨c, hc, hcm, _⟩ := drop_at (show m + 1 < t.cs.length by omega)
  have hq : c.pa % (m + 1 + 1) < t.cs.length := by have := Nat.mod_lt c.pa (show 0 < m + 1 + 1 by omega); omega
  obtain ⟨d, hdq, hdm, _⟩ := drop_at hq
  obtain ⟨b1, -⟩ := ht.2.2.1 c hcm
  have r1 := w64n c.pa (by omega)
  have r2 := w64s (m + 1) (by omega)
  have r3 : Int.tmod (c.pa : Int) ((m + 1 + 1 : Nat) : Int) = ((c.pa % (m + 1 + 1) : Nat) : Int) := tm _ _
  have r4 : IntKind.i64.wrap (((m + 1 : Nat) : Int) - 1) = (m : Int) := by rw [w64 (by omega) (by omega)]; omega
  have hW : waits t (m + 1) = (decide (c.pa % (m + 1 + 1) < m + 1) && decide (kdC c = 3) && decide (kdC d = 2) && !d.fa) := by simp [waits, hc, hdq]
  have hP : parN t (m + 1) = c.pa % (m + 1 + 1) := by simp [parN, hc]
  have k1 := ck c
  have k2 := ck d
  clear ck
  simp only [calT, calA, List.map, treA] at k1 k2 hKL ⊢
  generalize hpp : c.pa % (m + 1 + 1) = p at *
  have hi1 : decide ((p : Int) < ((m + 1 : Nat) : Int)) = decide (p < m + 1) := by congr 1; simp; omega
  have hi2 : (((kdC c : Nat) : Int) == 3) = decide (kdC c = 3) := by rw [Bool.eq_iff_iff]; simp; omega
  have hi3 : (((kdC d : Nat) : Int) == 2) = decide (kdC d = 2) := by rw [Bool.eq_iff_iff]; simp; omega
  have hno : waits t (m + 1) = false → enG t m L = enL t := fun h => by rw [← hinv]; simp [enG, stepE, h]
  cases h1 : decide (p < m + 1)
  · rw [h1] at hi1 hW
    repeat' (first | ((show W _ _ _ _); first | refine W.seq fun K hK => ?_ | refine W.block ?_ | ((first | refine wR ?_ | refine wD ?_ | refine W.skip ?_ | refine W.exit ?_ | refine W.ret (Post.ret ?_)); simp only [go_sem, reduceCtorEq, List.getElem?_map, hc, hdq, calA, e3, List.length_map, r1, r2, r3, r4, hi1, hi2, hi3]) | refine wT ?_ | refine wF ?_ | refine wC (fun h => ?_) (fun h => ?_)) | ((show AX _ _ _ _ _); (first | refine aP ?_ | refine aF ?_); simp only [go_sem, reduceCtorEq, List.getElem?_map, hc, hdq, calA, e3, List.length_map, r1, r2, r3, r4, hi1, hi2, hi3]) | refine iK ?_ | refine aI2 ?_ | (refine hK _ ?_; clear hK K) | clear hK K)
    refine hKL.to (m, L) ⟨by omega, hl, hb, hno (by rw [hW]; rfl)⟩ (by simp) (Fits.fit [(0, 0), (1, 1), (2, 2)] [1, 2, 3, 8] 3 rfl rfl ?_)
    simp only [go_sem]
    exact Fits.rfl
  rw [h1] at hi1 hW
  cases h2 : decide (kdC c = 3)
  · rw [h2] at hi2 hW
    repeat' (first | ((show W _ _ _ _); first | refine W.seq fun K hK => ?_ | refine W.block ?_ | ((first | refine wR ?_ | refine wD ?_ | refine W.skip ?_ | refine W.exit ?_ | refine W.ret (Post.ret ?_)); simp only [go_sem, reduceCtorEq, List.getElem?_map, hc, hdq, calA, e3, List.length_map, r1, r2, r3, r4, hi1, hi2, hi3]) | refine wT ?_ | refine wF ?_ | refine wC (fun h => ?_) (fun h => ?_)) | ((show AX _ _ _ _ _); (first | refine aP ?_ | refine aF ?_); simp only [go_sem, reduceCtorEq, List.getElem?_map, hc, hdq, calA, e3, List.length_map, r1, r2, r3, r4, hi1, hi2, hi3]) | refine iK ?_ | refine aI2 ?_ | (refine hK _ ?_; clear hK K) | clear hK K)
    refine hKL.to (m, L) ⟨by omega, hl, hb, hno (by rw [hW]; rfl)⟩ (by simp) (Fits.fit [(0, 0), (1, 1), (2, 2)] [1, 2, 3, 8] 3 rfl rfl ?_)
    simp only [go_sem]
    exact Fits.rfl
  rw [h2] at hi2 hW
  cases h3 : decide (kdC d = 2)
  · rw [h3] at hi3 hW
    repeat' (first | ((show W _ _ _ _); first | refine W.seq fun K hK => ?_ | refine W.block ?_ | ((first | refine wR ?_ | refine wD ?_ | refine W.skip ?_ | refine W.exit ?_ | refine W.ret (Post.ret ?_)); simp only [go_sem, reduceCtorEq, List.getElem?_map, hc, hdq, calA, e3, List.length_map, r1, r2, r3, r4, hi1, hi2, hi3]) | refine wT ?_ | refine wF ?_ | refine wC (fun h => ?_) (fun h => ?_)) | ((show AX _ _ _ _ _); (first | refine aP ?_ | refine aF ?_); simp only [go_sem, reduceCtorEq, List.getElem?_map, hc, hdq, calA, e3, List.length_map, r1, r2, r3, r4, hi1, hi2, hi3]) | refine iK ?_ | refine aI2 ?_ | (refine hK _ ?_; clear hK K) | clear hK K)
    refine hKL.to (m, L) ⟨by omega, hl, hb, hno (by rw [hW]; rfl)⟩ (by simp) (Fits.fit [(0, 0), (1, 1), (2, 2)] [1, 2, 3, 8] 3 rfl rfl ?_)
    simp only [go_sem]
    exact Fits.rfl
  rw [h3] at hi3 hW
  have h4 : d.fa = true ∨ d.fa = false := by cases d.fa <;> simp
  rcases h4 with h4 | h4 <;> (rw [h4] at hW k2)
  · repeat' (first | ((show W _ _ _ _); first | refine W.seq fun K hK => ?_ | refine W.block ?_ | ((first | refine wR ?_ | refine wD ?_ | refine W.skip ?_ | refine W.exit ?_ | refine W.ret (Post.ret ?_)); simp only [go_sem, reduceCtorEq, List.getElem?_map, hc, hdq, calA, e3, List.length_map, r1, r2, r3, r4, hi1, hi2, hi3, h4]) | refine wT ?_ | refine wF ?_ | refine wC (fun h => ?_) (fun h => ?_)) | ((show AX _ _ _ _ _); (first | refine aP ?_ | refine aF ?_); simp only [go_sem, reduceCtorEq, List.getElem?_map, hc, hdq, calA, e3, List.length_map, r1, r2, r3, r4, hi1, hi2, hi3, h4]) | refine iK ?_ | refine aI2 ?_ | (refine hK _ ?_; clear hK K) | clear hK K)
    refine hKL.to (m, L) ⟨by omega, hl, hb, hno (by rw [hW]; rfl)⟩ (by simp) (Fits.fit [(0, 0), (1, 1), (2, 2)] [1, 2, 3, 8] 3 rfl rfl ?_)
    simp only [go_sem]
    exact Fits.rfl
  have hp1 : p < m + 1 := of_decide_eq_true h1
  have hLp : L[p]? = some L[p] := List.getElem?_eq_getElem (by omega)
  have hLi : L[m + 1]? = some (L[m + 1]'(by omega)) := List.getElem?_eq_getElem (by omega)
  have bp := hb _ (List.mem_of_getElem? hLp)
  have bi := hb _ (List.mem_of_getElem? hLi)
  obtain ⟨x, hx⟩ : ∃ x, x = L[p] := ⟨_, rfl⟩
  obtain ⟨y, hy⟩ : ∃ y, y = L[m + 1]'(by omega) := ⟨_, rfl⟩
  rw [← hx] at hLp bp
  rw [← hy] at hLi bi
  clear hx hy
  have d1 : decide (p < L.length) = true := by simp; omega
  have d2 : decide (m + 1 < L.length) = true := by simp; omega
  have hif : (if (y : Int) > (x : Int) then (y : Int) else (x : Int)) = ((max x y : Nat) : Int) := by split <;> omega
  have hst : stepE t L (m + 1) = L.set p (max x y) := by simp [stepE, hW, hP, hLp, hLi]
  have hset : imR ((L.set p (max x y)).map nA) = (imR (L.map nA)).set p [.im (.flat (.int .i64 ((max x y : Nat) : Int)))] := by simp [imR, imL, nA, List.map_set]
  repeat' (first | ((show W _ _ _ _); first | refine W.seq fun K hK => ?_ | refine W.block ?_ | ((first | refine wR ?_ | refine wD ?_ | refine W.skip ?_ | refine W.exit ?_ | refine W.ret (Post.ret ?_)); simp only [go_sem, reduceCtorEq, List.getElem?_map, hc, hdq, calA, e3, List.length_map, r1, r2, r3, r4, hi1, hi2, hi3, h4, hLp, hLi, nA, imL, imR_len, d1, d2, hif]) | refine wT ?_ | refine wF ?_ | refine wC (fun h => ?_) (fun h => ?_)) | ((show AX _ _ _ _ _); (first | refine aP ?_ | refine aF ?_); simp only [go_sem, reduceCtorEq, List.getElem?_map, hc, hdq, calA, e3, List.length_map, r1, r2, r3, r4, hi1, hi2, hi3, h4, hLp, hLi, nA, imL, imR_len, d1, d2, hif]) | refine iK ?_ | refine aI2 ?_ | (refine hK _ ?_; clear hK K) | clear hK K)
  refine hKL.to (m, L.set p (max x y)) ⟨by omega, by simp [hl], fun z hz => ?_, by rw [← hinv]; simp only [enG, hst]⟩ (by simp) (Fits.fit [(0, 0), (1, 1), (2, 2)] [1, 2, 3, 8] 3 rfl rfl ?_)
  · rcases List.mem_or_eq_of_mem_set hz with h | h
    · exact hb z h
    · omega
  rw [← hset]
  simp only [go_sem]
  exact Fits.rfl
end Go.Proofs.YtegcmciglakicaaGreat
namespace Go.Proofs.YtegcmciglakicaaGreat
open Go.RowKit Go.Exe
set_option linter.unusedVariables false
set_option linter.unusedSimpArgs false
set_option maxHeartbeats 8000000
set_option maxRecDepth 100000
def svN (n : Nat) : ByteArray := if n = 0 then ⟨#[97, 112, 105]⟩ else if n = 1 then ⟨#[100, 98]⟩ else if n = 2 then ⟨#[119, 101, 98]⟩ else ⟨#[99, 97, 99, 104, 101]⟩
def veN (n : Nat) : ByteArray := if n = 0 then ⟨#[118, 49]⟩ else if n = 1 then ⟨#[118, 50]⟩ else ⟨#[]⟩
def opN (n : Nat) : ByteArray := if n = 0 then ⟨#[103, 101, 116]⟩ else if n = 1 then ⟨#[112, 117, 116]⟩ else ⟨#[108, 105, 115, 116]⟩
def paN (c : Cal) (i : Nat) : Nat := if c.pa % (i + 1) < i then c.pa % (i + 1) + 1 else if 0 < i then 100 else 0
def hasL (c : Cal) (i : Nat) (st : List Nat) : Bool := decide (c.li % 16 < i) && decide (st.getD (c.li % 16) 0 ≤ st.getD i 0)
def madeS (s : Sto) (k i : Nat) (c : Cal) (st en : List Nat) : Spn := ⟨((tidN s k : Nat) : Int), ((i + 1 : Nat) : Int), ((paN c i : Nat) : Int), 0, ((1 + c.cl % 4 : Nat) : Int), ((kdC c : Nat) : Int), svN (c.se % 4), veN (c.ve % 3), opN (c.op % 3), ((st.getD i 0 : Nat) : Int), ((en.getD i 0 : Nat) : Int), c.fa, attsC c, if hasL c i st then [(((tidN s k : Nat) : Int), ((c.li % 16 + 1 : Nat) : Int))] else []⟩
theorem tidN_lt {s : Sto} (hs : s.ok) (k : Nat) (hk : k < s.ts.length) : tidN s k < 1000000000 := by
  have := hs.2.2.2.2.2.2
  unfold tidN
  split
  · have := Nat.mod_lt ‹Tre›.slot (show 0 < 64 by omega); omega
  · omega
attribute [local irreducible] W AX Run RunD AStep AOp AOpX AStB AStH AStG Fits PCall GCall PostG Post Stop
theorem made_c (s : Sto) (hs : s.ok) (k i : Nat) (t : Tre) (c : Cal) (st en : List Nat) (hk : s.ts[k]? = some t) (hc : t.cs[i]? = some c) (hsl : st.length = t.cs.length) (hel : en.length = t.cs.length) :
    PCall Tryz.prog 81 [stoT s, ft (.int .i64 (k : Nat)), ft (.int .i64 (i : Nat)), natsT st, natsT en] (spT (madeS s k i c st en)) := by
  have hkl : k < s.ts.length := (List.getElem?_eq_some_iff.1 hk).1
  have hil : i < t.cs.length := (List.getElem?_eq_some_iff.1 hc).1
  have hto := hs.1 t (List.mem_of_getElem? hk)
  have hco := hto.2.2.1 c (List.mem_of_getElem? hc)
  have h8 := hto.2.2.2
  have c1 := tid_c s hs k hkl
  have c2 := kind_c c
  have c3 := attrs_c c hco
  obtain ⟨b1, b2, b3, b4, b5, b6, b7, b8, b9, b10⟩ := hco
  obtain ⟨v, hv⟩ : ∃ v, st[i]? = some v := ⟨st[i], List.getElem?_eq_getElem (by omega)⟩
  obtain ⟨u, hu⟩ : ∃ u, en[i]? = some u := ⟨en[i], List.getElem?_eq_getElem (by omega)⟩
  have hvD : st.getD i 0 = v := by simp [hv]
  have huD : en.getD i 0 = u := by simp [hu]
  have q1 := w64s i (by omega)
  have q2 := w64n (c.cl % 4) (by omega)
  have q3 : IntKind.i64.wrap (1 + ((c.cl % 4 : Nat) : Int)) = ((1 + c.cl % 4 : Nat) : Int) := wadd 1 _ (by omega)
  have q4 := w64n c.pa (by omega)
  have q5 : Int.tmod (c.pa : Int) ((i + 1 : Nat) : Int) = ((c.pa % (i + 1) : Nat) : Int) := tm _ _
  have q6 := w64s (c.pa % (i + 1)) (by have := Nat.mod_lt c.pa (show 0 < i + 1 by omega); omega)
  have q7 := w64n (c.li % 16) (by omega)
  have q8 := w64s (c.li % 16) (by omega)
  have s1 : ([[.im (.flat (.string ⟨#[97, 112, 105]⟩))], [.im (.flat (.string ⟨#[100, 98]⟩))], [.im (.flat (.string ⟨#[119, 101, 98]⟩))], [.im (.flat (.string ⟨#[99, 97, 99, 104, 101]⟩))]] : List (List Cell))[c.se % 4]? = some [.im (.flat (.string (svN (c.se % 4))))] := by
    rcases (by omega : c.se % 4 = 0 ∨ c.se % 4 = 1 ∨ c.se % 4 = 2 ∨ c.se % 4 = 3) with h | h | h | h <;> simp [h, svN]
  have s2 : ([[.im (.flat (.string ⟨#[118, 49]⟩))], [.im (.flat (.string ⟨#[118, 50]⟩))], [.im (.flat (.string ⟨#[]⟩))]] : List (List Cell))[c.ve % 3]? = some [.im (.flat (.string (veN (c.ve % 3))))] := by
    rcases (by omega : c.ve % 3 = 0 ∨ c.ve % 3 = 1 ∨ c.ve % 3 = 2) with h | h | h <;> simp [h, veN]
  have s3 : ([[.im (.flat (.string ⟨#[103, 101, 116]⟩))], [.im (.flat (.string ⟨#[112, 117, 116]⟩))], [.im (.flat (.string ⟨#[108, 105, 115, 116]⟩))]] : List (List Cell))[c.op % 3]? = some [.im (.flat (.string (opN (c.op % 3))))] := by
    rcases (by omega : c.op % 3 = 0 ∨ c.op % 3 = 1 ∨ c.op % 3 = 2) with h | h | h <;> simp [h, opN]
  have d1 : decide (c.se % 4 < 4) = true := by simp; omega
  have d2 : decide (c.ve % 3 < 3) = true := by simp; omega
  have d3 : decide (c.op % 3 < 3) = true := by simp; omega
  have e1 : decide (((c.pa % (i + 1) : Nat) : Int) < (i : Int)) = decide (c.pa % (i + 1) < i) := by congr 1; exact propext Int.ofNat_lt
  have e2 : decide ((i : Int) > 0) = decide (0 < i) := by congr 1; simp
  have e3 : decide (((c.li % 16 : Nat) : Int) < (i : Int)) = decide (c.li % 16 < i) := by congr 1; exact propext Int.ofNat_lt
  have hpa1 : decide (c.pa % (i + 1) < i) = true → ((paN c i : Nat) : Int) = ((c.pa % (i + 1) + 1 : Nat) : Int) := fun h => by simp only [decide_eq_true_eq] at h; simp [paN, h]
  have hpa2 : decide (c.pa % (i + 1) < i) = false → decide (0 < i) = true → ((paN c i : Nat) : Int) = 100 := fun h h' => by simp only [decide_eq_true_eq, decide_eq_false_iff_not] at h h'; simp [paN, h, h']
  have hpa3 : decide (c.pa % (i + 1) < i) = false → decide (0 < i) = false → ((paN c i : Nat) : Int) = 0 := fun h h' => by simp only [decide_eq_false_iff_not] at h h'; simp [paN, h, h']
  cases hL : hasL c i st
  · refine PCall.conv (args' := [stoT s, ft (.int .i64 (k : Nat)), ft (.int .i64 (i : Nat)), natsT st, natsT en]) (r' := .g [fl (.int .i64 (tidN s k : Nat)), fl (.int .i64 (i + 1 : Nat)), fl (.int .i64 (paN c i : Nat)), fl (.int .i64 0), fl (.int .i64 (1 + c.cl % 4 : Nat)), fl (.int .i64 (kdC c : Nat)), fl (.string (svN (c.se % 4))), fl (.string (veN (c.ve % 3))), fl (.string (opN (c.op % 3))), fl (.int .i64 (v : Nat)), fl (.int .i64 (u : Nat)), fl (.bool c.fa), .im (.sl 150 ((attsC c).map attA)), fl (.slice none 0 0)]) ?_ (Al.refl (fun _ => TLe.rfl) _) (TLe.g ?_)
    rotate_left
    · simp only [spA, madeS, hL, hvD, huD, List.map, Bool.false_eq_true, if_false, List.map_nil]
      repeat (first | exact Al.nil | (refine Al.cons (by first | exact CLe.rfl | exact CLe.nil) ?_))
    simp only [stoT, stoA, calT, calA, List.map] at c1 c2 c3 ⊢
    cases hj : decide (c.li % 16 < i)
    · rw [hj] at e3
      refine PCall.intro (nt := 112) (rs := [.cell 10 35]) Tryz.func81 rfl ⟨by kernel_rfl, by kernel_rfl, by kernel_rfl⟩ (by simp) ?_
      rintro ⟨P, w0, ok0, may, np, pblk⟩ rfl rfl
      repeat' (first | ((show W _ _ _ _); first | refine W.seq fun K hK => ?_ | refine W.block ?_ | ((first | refine wR ?_ | refine wD ?_ | refine W.skip ?_ | refine W.exit ?_ | refine W.ret (Post.ret ?_)); simp only [go_sem, reduceCtorEq, List.getElem?_map, hk, hc, treA, calA, q1, q2, q3, q4, q5, q6, q7, q8, tm3, tm4, tm16, s1, s2, s3, d1, d2, d3, hv, hu, nA, e1, e2, e3, imL]) | refine wT ?_ | refine wF ?_ | refine wC (fun h => ?_) (fun h => ?_)) | ((show AX _ _ _ _ _); (first | refine aP ?_ | refine aF ?_); simp only [go_sem, reduceCtorEq, List.getElem?_map, hk, hc, treA, calA, q1, q2, q3, q4, q5, q6, q7, q8, tm3, tm4, tm16, s1, s2, s3, d1, d2, d3, hv, hu, nA, e1, e2, e3, imL]) | refine iK ?_ | refine aI2 ?_ | (refine hK _ ?_; clear hK K) | clear hK K)
      all_goals first | rw [hpa1 (by assumption)] | rw [hpa2 (by assumption) (by assumption)] | rw [hpa3 (by assumption) (by assumption)]
    · rw [hj] at e3
      have hj' := of_decide_eq_true hj
      obtain ⟨x, hx⟩ : ∃ x, st[c.li % 16]? = some x := ⟨st[c.li % 16], List.getElem?_eq_getElem (by omega)⟩
      have e4 : decide ((x : Int) ≤ (v : Int)) = false := by
        have h : hasL c i st = decide (x ≤ v) := by simp [hasL, hx, hv, hj']
        rw [hL] at h
        have := of_decide_eq_false h.symm
        exact decide_eq_false fun h => this (Int.ofNat_le.1 h)
      refine PCall.intro (nt := 112) (rs := [.cell 10 35]) Tryz.func81 rfl ⟨by kernel_rfl, by kernel_rfl, by kernel_rfl⟩ (by simp) ?_
      rintro ⟨P, w0, ok0, may, np, pblk⟩ rfl rfl
      repeat' (first | ((show W _ _ _ _); first | refine W.seq fun K hK => ?_ | refine W.block ?_ | ((first | refine wR ?_ | refine wD ?_ | refine W.skip ?_ | refine W.exit ?_ | refine W.ret (Post.ret ?_)); simp only [go_sem, reduceCtorEq, List.getElem?_map, hk, hc, treA, calA, q1, q2, q3, q4, q5, q6, q7, q8, tm3, tm4, tm16, s1, s2, s3, d1, d2, d3, hv, hu, hx, nA, e1, e2, e3, e4, imL]) | refine wT ?_ | refine wF ?_ | refine wC (fun h => ?_) (fun h => ?_)) | ((show AX _ _ _ _ _); (first | refine aP ?_ | refine aF ?_); simp only [go_sem, reduceCtorEq, List.getElem?_map, hk, hc, treA, calA, q1, q2, q3, q4, q5, q6, q7, q8, tm3, tm4, tm16, s1, s2, s3, d1, d2, d3, hv, hu, hx, nA, e1, e2, e3, e4, imL]) | refine iK ?_ | refine aI2 ?_ | (refine hK _ ?_; clear hK K) | clear hK K)
      all_goals first | rw [hpa1 (by assumption)] | rw [hpa2 (by assumption) (by assumption)] | rw [hpa3 (by assumption) (by assumption)]
  · have hj : decide (c.li % 16 < i) = true := by unfold hasL at hL; simp only [Bool.and_eq_true] at hL; exact hL.1
    rw [hj] at e3
    have hj' := of_decide_eq_true hj
    obtain ⟨x, hx⟩ : ∃ x, st[c.li % 16]? = some x := ⟨st[c.li % 16], List.getElem?_eq_getElem (by omega)⟩
    have e4 : decide ((x : Int) ≤ (v : Int)) = true := by
      have h : hasL c i st = decide (x ≤ v) := by simp [hasL, hx, hv, hj']
      rw [hL] at h
      exact decide_eq_true (Int.ofNat_le.2 (of_decide_eq_true h.symm))
    simp only [stoT, stoA, calT, calA, List.map] at c1 c2 c3 ⊢
    simp only [spA, madeS, hL, hvD, huD, List.map, if_true, List.map_cons, List.map_nil, refA]
    refine PCall.intro (nt := 112) (rs := [.cell 10 35]) Tryz.func81 rfl ⟨by kernel_rfl, by kernel_rfl, by kernel_rfl⟩ (by simp) ?_
    rintro ⟨P, w0, ok0, may, np, pblk⟩ rfl rfl
    repeat' (first | ((show W _ _ _ _); first | refine W.seq fun K hK => ?_ | refine W.block ?_ | ((first | refine wR ?_ | refine wD ?_ | refine W.skip ?_ | refine W.exit ?_ | refine W.ret (Post.ret ?_)); simp only [go_sem, reduceCtorEq, List.getElem?_map, hk, hc, treA, calA, q1, q2, q3, q4, q5, q6, q7, q8, tm3, tm4, tm16, s1, s2, s3, d1, d2, d3, hv, hu, hx, nA, e1, e2, e3, e4, imL]) | refine wT ?_ | refine wF ?_ | refine wC (fun h => ?_) (fun h => ?_)) | ((show AX _ _ _ _ _); (first | refine aP ?_ | refine aF ?_); simp only [go_sem, reduceCtorEq, List.getElem?_map, hk, hc, treA, calA, q1, q2, q3, q4, q5, q6, q7, q8, tm3, tm4, tm16, s1, s2, s3, d1, d2, d3, hv, hu, hx, nA, e1, e2, e3, e4, imL]) | refine iK ?_ | refine aI2 ?_ | (refine hK _ ?_; clear hK K) | clear hK K)
    all_goals first | (rw [hpa1 (by assumption)]; rfl) | (rw [hpa2 (by assumption) (by assumption)]; rfl) | (rw [hpa3 (by assumption) (by assumption)]; rfl)
end Go.Proofs.YtegcmciglakicaaGreat
namespace Go.Proofs.YtegcmciglakicaaGreat
open Go.RowKit Go.Exe
set_option linter.unusedVariables false
set_option linter.unusedSimpArgs false
set_option maxHeartbeats 8000000
set_option maxRecDepth 100000
def wrongS (s : Sto) (k i : Nat) : Bool := decide (0 < s.wr) && decide (s.wr % 8 = i) && decide (s.wr / 8 % 3 = k)
def byS (s : Sto) (k i : Nat) (c : Cal) : Int := if wrongS s k i then offC s (1 + c.cl % 4) + 500 else offC s (1 + c.cl % 4)
def spnS (s : Sto) (k : Nat) (t : Tre) (i : Nat) (c : Cal) : Spn := { madeS s k i c (stL t) (enL t) with st := (((stL t).getD i 0 : Nat) : Int) + byS s k i c, en := (((enL t).getD i 0 : Nat) : Int) + byS s k i c }
def trcS (s : Sto) (k : Nat) (t : Tre) : List Spn := t.cs.zipIdx.map fun y => spnS s k t y.2 y.1
theorem trcS_at {s : Sto} {k : Nat} {t : Tre} {i : Nat} {c : Cal} (h : t.cs[i]? = some c) : (trcS s k t)[i]? = some (spnS s k t i c) := by
  have : t.cs.zipIdx[i]? = some (c, i) := by simp [List.getElem?_zipIdx, h]
  simp [trcS, this]
theorem trcS_len (s : Sto) (k : Nat) (t : Tre) : (trcS s k t).length = t.cs.length := by simp [trcS]
theorem offC_b (s : Sto) (n : Nat) : -21 < offC s n ∧ offC s n < 21 := by
  unfold offC
  exact ⟨Int.lt_tmod_of_pos _ (by omega), Int.tmod_lt_of_pos _ (by omega)⟩
theorem stL_len (t : Tre) : (stL t).length = t.cs.length := stF_len t _ (Nat.le_refl _)
theorem enG_len (t : Tre) : ∀ (n : Nat) (L : List Nat), (enG t n L).length = L.length
  | 0, L => rfl
  | n + 1, L => by
    rw [enG, enG_len t n]
    unfold stepE
    split <;> simp
theorem enL_len (t : Tre) : (enL t).length = t.cs.length := by rw [enL, enG_len, enF_len t _ (Nat.le_refl _)]
theorem getD_le {L : List Nat} {b : Nat} (h : ∀ x ∈ L, x ≤ b) (i : Nat) : L.getD i 0 ≤ b := by
  rw [List.getD_eq_getElem?_getD]
  cases e : L[i]? with
  | none => simp
  | some y => exact h y (List.mem_of_getElem? e)
theorem enG_le (t : Tre) {b : Nat} : ∀ (n : Nat) (L : List Nat), (∀ x ∈ L, x ≤ b) → ∀ x ∈ enG t n L, x ≤ b
  | 0, L, h => h
  | n + 1, L, h => by
    rw [enG]
    refine enG_le t n _ fun x hx => ?_
    unfold stepE at hx
    split at hx
    · rcases List.mem_or_eq_of_mem_set hx with hx | hx
      · exact h x hx
      · have h1 := getD_le h (parN t (n + 1))
        have h2 := getD_le h (n + 1)
        omega
    · exact h x hx
theorem stL_le {t : Tre} (h8 : t.cs.length ≤ 8) : ∀ x ∈ stL t, x ≤ 2000 := fun x hx => by have := stF_le t _ (Nat.le_refl _) x hx; omega
theorem enL_le {t : Tre} (h8 : t.cs.length ≤ 8) : ∀ x ∈ enL t, x ≤ 2000 := enG_le t _ _ fun x hx => by have := enF_le t _ (Nat.le_refl _) x hx; omega
attribute [local irreducible] W AX Run RunD AStep AOp AOpX AStB AStH AStG Fits PCall GCall PostG Post Stop
theorem strace_c (s : Sto) (hs : s.ok) (k : Nat) (t : Tre) (hk : s.ts[k]? = some t) (h0 : 0 < t.cs.length) :
    PCall Tryz.prog 48 [stoT s, ft (.int .i64 (k : Nat)), ft (.bool false)] (spsT (trcS s k t)) := by
  have hto := hs.1 t (List.mem_of_getElem? hk)
  have h8 := hto.2.2.2
  have c80 := times_c t hto h0
  have cm : ∀ (i : Nat) (c : Cal), t.cs[i]? = some c → PCall Tryz.prog 81 [stoT s, ft (.int .i64 (k : Nat)), ft (.int .i64 (i : Nat)), natsT (stL t), natsT (enL t)] (spT (madeS s k i c (stL t) (enL t))) := fun i c hc => made_c s hs k i t c _ _ hk hc (stL_len t) (enL_len t)
  have co : ∀ c : Cal, PCall Tryz.prog 82 [stoT s, ft (.int .i64 (1 + c.cl % 4 : Nat))] (ft (.int .i64 (offC s (1 + c.cl % 4)))) := fun c => off_c s hs _ (by omega) (by omega)
  have bs := stL_le h8
  have be := enL_le h8
  have hwr := hs.2.2.2.2.2.1
  simp only [stoT, stoA, treT, treA, List.map] at c80 cm co ⊢
  refine PCall.intro (nt := 82) (rs := [.tmp 6]) Tryz.func48 rfl ⟨by kernel_rfl, by kernel_rfl, by kernel_rfl⟩ (by simp) ?_
  rintro ⟨P, w0, ok0, may, np, pblk⟩ rfl rfl
  repeat' (first | ((show W _ _ _ _); first | refine W.seq fun K hK => ?_ | refine W.block ?_ | ((first | refine wR ?_ | refine wD ?_ | refine W.skip ?_ | refine W.exit ?_ | refine W.ret (Post.ret ?_)); simp only [go_sem, reduceCtorEq, List.getElem?_map, hk, treA]) | refine wT ?_ | refine wF ?_ | refine wC (fun h => ?_) (fun h => ?_)) | ((show AX _ _ _ _ _); (first | refine aP ?_ | refine aF ?_); simp only [go_sem, reduceCtorEq, List.getElem?_map, hk, treA]) | refine iK ?_ | refine aI2 ?_ | (refine hK _ ?_; clear hK K) | clear hK K)
  refine W.loopF (T := fun i : Nat => { t := [(1, ft (.int .i64 (k : Nat))), (2, ft (.bool false)), (3, .c (.ptr 0 0)), (7, .c (.ref 1)), (8, natsT (stL t)), (9, natsT (enL t)), (10, ft (.int .i64 (i : Nat)))], h := [(0, .box 27 ((stoA s).map .im)), (1, .row 35 (imR (((trcS s k t).take i).map spA)))], nx := 2, ex := [], nt := 82 })
    (Inv := fun i => i ≤ t.cs.length) (μ := fun i => t.cs.length - i) (x0 := 0) ?_ (Nat.zero_le _) ?_
  · refine Fits.adopt 7 99 35 rfl rfl rfl tE35 rfl ?_
    refine Fits.fit [(0, 0), (99, 1)] [1, 2, 3, 7, 8, 9, 10] 2 rfl rfl ?_
    simp only [go_sem, List.take_zero, List.map_nil, imR_nil, stoA, List.map]
    exact Fits.rfl
  rintro i hi KL hKL
  by_cases hlt : i < t.cs.length
  · obtain ⟨c, hc, hm, hd⟩ := drop_at hlt
    have e1 : decide ((i : Int) < t.cs.length) = true := by simp; omega
    have hw := w64s i (by omega)
    have cmi := cm i c hc
    have coi := co c
    clear cm co c80
    have ob := offC_b s (1 + c.cl % 4)
    have vb := getD_le bs i
    have ub := getD_le be i
    have hsn : (trcS s k t).take (i + 1) = (trcS s k t).take i ++ [spnS s k t i c] := by rw [List.take_add_one, trcS_at hc]; rfl
    have himR : imR (((trcS s k t).take (i + 1)).map spA) = imR (((trcS s k t).take i).map spA) ++ [(spA (spnS s k t i c)).map .im] := by rw [hsn]; simp [imR, imL]
    have r1 := w64n s.wr (by omega)
    have r2 := w64n (s.wr / 8) (by omega)
    have g1 : decide ((s.wr : Int) > 0) = decide (0 < s.wr) := by congr 1; simp
    have g2 : (((s.wr % 8 : Nat) : Int) == (i : Int)) = decide (s.wr % 8 = i) := by rw [Bool.eq_iff_iff, beq_iff_eq, decide_eq_true_eq]; exact Int.ofNat_inj
    have g3 : (((s.wr / 8 % 3 : Nat) : Int) == (k : Int)) = decide (s.wr / 8 % 3 = k) := by rw [Bool.eq_iff_iff, beq_iff_eq, decide_eq_true_eq]; exact Int.ofNat_inj
    have hW : wrongS s k i = (decide (0 < s.wr) && decide (s.wr % 8 = i) && decide (s.wr / 8 % 3 = k)) := rfl
    simp only [stoA, List.map, spT, spA, madeS] at hKL cmi ⊢
    repeat' (first | ((show W _ _ _ _); first | refine W.stop (id := 9) ?_ | refine W.seq fun K hK => ?_ | refine W.block ?_ | ((first | refine wR ?_ | refine wD ?_ | refine W.skip ?_ | refine W.exit ?_ | refine W.ret (Post.ret ?_)); simp only [go_sem, reduceCtorEq, List.getElem?_map, hk, treA, e1, List.length_map, hw]) | refine wT ?_ | refine wF ?_ | refine wC (fun h => ?_) (fun h => ?_)) | ((show AX _ _ _ _ _); (first | refine aP ?_ | refine aF ?_); simp only [go_sem, reduceCtorEq, List.getElem?_map, hk, treA, e1, List.length_map, hw]) | refine iK ?_ | refine aI2 ?_ | (refine hK _ ?_; clear hK K) | clear hK K)
    refine Stop.out ?_
    cases a1 : decide (0 < s.wr)
    · rw [a1] at g1 hW
      have z1 : IntKind.i64.wrap ((((stL t).getD i 0 : Nat) : Int) + offC s (1 + c.cl % 4)) = (((stL t).getD i 0 : Nat) : Int) + offC s (1 + c.cl % 4) := w64 (by omega) (by omega)
      have z2 : IntKind.i64.wrap ((((enL t).getD i 0 : Nat) : Int) + offC s (1 + c.cl % 4)) = (((enL t).getD i 0 : Nat) : Int) + offC s (1 + c.cl % 4) := w64 (by omega) (by omega)
      have hb : byS s k i c = offC s (1 + c.cl % 4) := by simp [byS, hW]
      repeat' (first | ((show W _ _ _ _); first | refine W.seq fun K hK => ?_ | refine W.block ?_ | ((first | refine wR ?_ | refine wD ?_ | refine W.skip ?_ | refine W.exit ?_ | refine W.ret (Post.ret ?_)); simp only [go_sem, reduceCtorEq, r1, r2, tm8, td8, tm3, g1, g2, g3, z1, z2, hw, imR_len, List.length_take, trcS_len]) | refine wT ?_ | refine wF ?_ | refine wC (fun h => ?_) (fun h => ?_)) | ((show AX _ _ _ _ _); (first | refine aP ?_ | refine aF ?_); simp only [go_sem, reduceCtorEq, r1, r2, tm8, td8, tm3, g1, g2, g3, z1, z2, hw, imR_len, List.length_take, trcS_len]) | refine iK ?_ | refine aI2 ?_ | (refine hK _ ?_; clear hK K) | clear hK K)
      refine hKL.to (i + 1) (by omega) (by omega) (Fits.fit [(0, 0), (61, 1)] [1, 2, 3, 7, 8, 9, 10] 2 rfl rfl ?_)
      simp only [go_sem, himR, spA, spnS, madeS, hb, List.map]
      exact Fits.rfl
    rw [a1] at g1 hW
    cases a2 : decide (s.wr % 8 = i)
    · rw [a2] at g2 hW
      have z1 : IntKind.i64.wrap ((((stL t).getD i 0 : Nat) : Int) + offC s (1 + c.cl % 4)) = (((stL t).getD i 0 : Nat) : Int) + offC s (1 + c.cl % 4) := w64 (by omega) (by omega)
      have z2 : IntKind.i64.wrap ((((enL t).getD i 0 : Nat) : Int) + offC s (1 + c.cl % 4)) = (((enL t).getD i 0 : Nat) : Int) + offC s (1 + c.cl % 4) := w64 (by omega) (by omega)
      have hb : byS s k i c = offC s (1 + c.cl % 4) := by simp [byS, hW]
      repeat' (first | ((show W _ _ _ _); first | refine W.seq fun K hK => ?_ | refine W.block ?_ | ((first | refine wR ?_ | refine wD ?_ | refine W.skip ?_ | refine W.exit ?_ | refine W.ret (Post.ret ?_)); simp only [go_sem, reduceCtorEq, r1, r2, tm8, td8, tm3, g1, g2, g3, z1, z2, hw, imR_len, List.length_take, trcS_len]) | refine wT ?_ | refine wF ?_ | refine wC (fun h => ?_) (fun h => ?_)) | ((show AX _ _ _ _ _); (first | refine aP ?_ | refine aF ?_); simp only [go_sem, reduceCtorEq, r1, r2, tm8, td8, tm3, g1, g2, g3, z1, z2, hw, imR_len, List.length_take, trcS_len]) | refine iK ?_ | refine aI2 ?_ | (refine hK _ ?_; clear hK K) | clear hK K)
      refine hKL.to (i + 1) (by omega) (by omega) (Fits.fit [(0, 0), (61, 1)] [1, 2, 3, 7, 8, 9, 10] 2 rfl rfl ?_)
      simp only [go_sem, himR, spA, spnS, madeS, hb, List.map]
      exact Fits.rfl
    rw [a2] at g2 hW
    cases a3 : decide (s.wr / 8 % 3 = k)
    · rw [a3] at g3 hW
      have z1 : IntKind.i64.wrap ((((stL t).getD i 0 : Nat) : Int) + offC s (1 + c.cl % 4)) = (((stL t).getD i 0 : Nat) : Int) + offC s (1 + c.cl % 4) := w64 (by omega) (by omega)
      have z2 : IntKind.i64.wrap ((((enL t).getD i 0 : Nat) : Int) + offC s (1 + c.cl % 4)) = (((enL t).getD i 0 : Nat) : Int) + offC s (1 + c.cl % 4) := w64 (by omega) (by omega)
      have hb : byS s k i c = offC s (1 + c.cl % 4) := by simp [byS, hW]
      repeat' (first | ((show W _ _ _ _); first | refine W.seq fun K hK => ?_ | refine W.block ?_ | ((first | refine wR ?_ | refine wD ?_ | refine W.skip ?_ | refine W.exit ?_ | refine W.ret (Post.ret ?_)); simp only [go_sem, reduceCtorEq, r1, r2, tm8, td8, tm3, g1, g2, g3, z1, z2, hw, imR_len, List.length_take, trcS_len]) | refine wT ?_ | refine wF ?_ | refine wC (fun h => ?_) (fun h => ?_)) | ((show AX _ _ _ _ _); (first | refine aP ?_ | refine aF ?_); simp only [go_sem, reduceCtorEq, r1, r2, tm8, td8, tm3, g1, g2, g3, z1, z2, hw, imR_len, List.length_take, trcS_len]) | refine iK ?_ | refine aI2 ?_ | (refine hK _ ?_; clear hK K) | clear hK K)
      refine hKL.to (i + 1) (by omega) (by omega) (Fits.fit [(0, 0), (61, 1)] [1, 2, 3, 7, 8, 9, 10] 2 rfl rfl ?_)
      simp only [go_sem, himR, spA, spnS, madeS, hb, List.map]
      exact Fits.rfl
    · rw [a3] at g3 hW
      have z0 : IntKind.i64.wrap (offC s (1 + c.cl % 4) + 500) = offC s (1 + c.cl % 4) + 500 := w64 (by omega) (by omega)
      have z1 : IntKind.i64.wrap ((((stL t).getD i 0 : Nat) : Int) + (offC s (1 + c.cl % 4) + 500)) = (((stL t).getD i 0 : Nat) : Int) + (offC s (1 + c.cl % 4) + 500) := w64 (by omega) (by omega)
      have z2 : IntKind.i64.wrap ((((enL t).getD i 0 : Nat) : Int) + (offC s (1 + c.cl % 4) + 500)) = (((enL t).getD i 0 : Nat) : Int) + (offC s (1 + c.cl % 4) + 500) := w64 (by omega) (by omega)
      have hb : byS s k i c = offC s (1 + c.cl % 4) + 500 := by simp [byS, hW]
      repeat' (first | ((show W _ _ _ _); first | refine W.seq fun K hK => ?_ | refine W.block ?_ | ((first | refine wR ?_ | refine wD ?_ | refine W.skip ?_ | refine W.exit ?_ | refine W.ret (Post.ret ?_)); simp only [go_sem, reduceCtorEq, r1, r2, tm8, td8, tm3, g1, g2, g3, z0, z1, z2, hw, imR_len, List.length_take, trcS_len]) | refine wT ?_ | refine wF ?_ | refine wC (fun h => ?_) (fun h => ?_)) | ((show AX _ _ _ _ _); (first | refine aP ?_ | refine aF ?_); simp only [go_sem, reduceCtorEq, r1, r2, tm8, td8, tm3, g1, g2, g3, z0, z1, z2, hw, imR_len, List.length_take, trcS_len]) | refine iK ?_ | refine aI2 ?_ | (refine hK _ ?_; clear hK K) | clear hK K)
      refine hKL.to (i + 1) (by omega) (by omega) (Fits.fit [(0, 0), (64, 1)] [1, 2, 3, 7, 8, 9, 10] 2 rfl rfl ?_)
      simp only [go_sem, himR, spA, spnS, madeS, hb, List.map]
      exact Fits.rfl
  obtain rfl : i = t.cs.length := by omega
  have e1 : decide ((t.cs.length : Int) < t.cs.length) = false := by simp
  clear hKL
  rw [show (trcS s k t).take t.cs.length = trcS s k t by rw [← trcS_len s k t, List.take_length]]
  simp only [stoA, List.map]
  repeat' (first | ((show W _ _ _ _); first | refine W.seq fun K hK => ?_ | refine W.block ?_ | ((first | refine wR ?_ | refine wD ?_ | refine W.skip ?_ | refine W.exit ?_ | refine W.ret (Post.ret ?_)); simp only [go_sem, reduceCtorEq, List.getElem?_map, hk, treA, e1, List.length_map]) | refine wT ?_ | refine wF ?_ | refine wC (fun h => ?_) (fun h => ?_)) | ((show AX _ _ _ _ _); (first | refine aP ?_ | refine aF ?_); simp only [go_sem, reduceCtorEq, List.getElem?_map, hk, treA, e1, List.length_map]) | refine iK ?_ | refine aI2 ?_ | (refine hK _ ?_; clear hK K) | clear hK K)
end Go.Proofs.YtegcmciglakicaaGreat
namespace Go.Proofs.YtegcmciglakicaaGreat
open Go.RowKit Go.Exe
set_option linter.unusedVariables false
set_option linter.unusedSimpArgs false
set_option maxHeartbeats 8000000
set_option maxRecDepth 100000
abbrev Trc := Nat × List Spn
def trcA (x : Trc) : List AV := [.flat (.int .i64 (x.1 : Nat)), .flat (.int .i64 1), .sl 35 (x.2.map spA)]
abbrev trcsT (l : List Trc) : TV := .c (.im (.sl 74 (l.map trcA)))
def posT (id : Nat) (l : List Trc) : Nat → Nat
  | 0 => 0
  | n + 1 => match l[n]? with
    | some x => if x.1 > id then posT id l n else n + 1
    | none => n + 1
def insT (x : Trc) (l : List Trc) : List Trc := l.take (posT x.1 l l.length) ++ [x] ++ l.drop (posT x.1 l l.length)
theorem posT_le (id : Nat) (l : List Trc) : ∀ n, posT id l n ≤ n
  | 0 => Nat.le_refl _
  | n + 1 => by
    have := posT_le id l n
    unfold posT
    split
    · split <;> omega
    · omega
theorem insT_len (x : Trc) (l : List Trc) : (insT x l).length = l.length + 1 := by
  have := posT_le x.1 l l.length
  simp [insT]; omega
def trsN (s : Sto) : Nat → List Trc
  | 0 => []
  | k + 1 => match s.ts[k]? with
    | some t => if t.cs.length = 0 then trsN s k else insT (tidN s k, trcS s k t) (trsN s k)
    | none => trsN s k
def trsS (s : Sto) : List Trc := trsN s s.ts.length
theorem trsN_len (s : Sto) : ∀ k, (trsN s k).length ≤ k
  | 0 => Nat.le_refl _
  | k + 1 => by
    have := trsN_len s k
    unfold trsN
    split
    · split
      · omega
      · rw [insT_len]; omega
    · omega
attribute [local irreducible] W AX Run RunD AStep AOp AOpX AStB AStH AStG Fits PCall GCall PostG Post Stop
theorem traces_c (s : Sto) (hs : s.ok) : PCall Tryz.prog 22 [stoT s] (trcsT (trsS s)) := by
  have h3 := hs.2.2.2.2.2.2
  have c47 : ∀ k, k < s.ts.length → PCall Tryz.prog 47 [stoT s, ft (.int .i64 (k : Nat))] (ft (.int .i64 (tidN s k : Nat))) := tid_c s hs
  have c48 : ∀ (k : Nat) (t : Tre), s.ts[k]? = some t → 0 < t.cs.length → PCall Tryz.prog 48 [stoT s, ft (.int .i64 (k : Nat)), ft (.bool false)] (spsT (trcS s k t)) := fun k t hk h0 => strace_c s hs k t hk h0
  simp only [stoT, stoA, List.map] at c47 c48 ⊢
  refine PCall.intro (nt := 59) (rs := [.tmp 2]) Tryz.func22 rfl ⟨by kernel_rfl, by kernel_rfl, by kernel_rfl⟩ (by simp) ?_
  rintro ⟨P, w0, ok0, may, np, pblk⟩ rfl rfl
  repeat' (first | ((show W _ _ _ _); first | refine W.seq fun K hK => ?_ | refine W.block ?_ | ((first | refine wR ?_ | refine wD ?_ | refine W.skip ?_ | refine W.exit ?_ | refine W.ret (Post.ret ?_)); simp only [go_sem, reduceCtorEq]) | refine wT ?_ | refine wF ?_ | refine wC (fun h => ?_) (fun h => ?_)) | ((show AX _ _ _ _ _); (first | refine aP ?_ | refine aF ?_); simp only [go_sem, reduceCtorEq]) | refine iK ?_ | refine aI2 ?_ | (refine hK _ ?_; clear hK K) | clear hK K)
  refine W.loopF (T := fun i : Nat => { t := [(1, .c (.ptr 0 0)), (3, .c (.ref 1)), (4, ft (.int .i64 (i : Nat)))], h := [(0, .box 27 ((stoA s).map .im)), (1, .row 74 (imR ((trsN s i).map trcA)))], nx := 2, ex := [], nt := 59 })
    (Inv := fun i => i ≤ s.ts.length) (μ := fun i => s.ts.length - i) (x0 := 0) ?_ (Nat.zero_le _) ?_
  · refine Fits.adopt 3 99 74 rfl rfl rfl tE74 rfl ?_
    refine Fits.fit [(0, 0), (99, 1)] [1, 3, 4] 2 rfl rfl ?_
    simp only [go_sem, trsN, List.map_nil, imR_nil, stoA, List.map]
    exact Fits.rfl
  rintro i hi KL hKL
  simp only [stoA, List.map] at hKL ⊢
  by_cases hlt : i < s.ts.length
  rotate_left
  · obtain rfl : i = s.ts.length := by omega
    have e1 : decide ((s.ts.length : Int) < s.ts.length) = false := by simp
    clear hKL c47 c48
    repeat' (first | ((show W _ _ _ _); first | refine W.seq fun K hK => ?_ | refine W.block ?_ | ((first | refine wR ?_ | refine wD ?_ | refine W.skip ?_ | refine W.exit ?_ | refine W.ret (Post.ret ?_)); simp only [go_sem, reduceCtorEq, List.length_map, e1]) | refine wT ?_ | refine wF ?_ | refine wC (fun h => ?_) (fun h => ?_)) | ((show AX _ _ _ _ _); (first | refine aP ?_ | refine aF ?_); simp only [go_sem, reduceCtorEq, List.length_map, e1]) | refine iK ?_ | refine aI2 ?_ | (refine hK _ ?_; clear hK K) | clear hK K)
    rfl
  obtain ⟨t, hx, hm, hd⟩ := drop_at hlt
  have e1 : decide ((i : Int) < s.ts.length) = true := by simp; omega
  have hw := w64s i (by omega)
  have c1 := c47 i hlt
  have c2 := c48 i t hx
  clear c47 c48
  by_cases h0 : t.cs.length = 0
  · have e2 : (((t.cs.length : Nat) : Int) == 0) = true := by simp [h0]
    have hat : trsN s (i + 1) = trsN s i := by simp [trsN, hx, h0]
    clear c1 c2
    repeat' (first | ((show W _ _ _ _); first | refine W.seq fun K hK => ?_ | refine W.block ?_ | ((first | refine wR ?_ | refine wD ?_ | refine W.skip ?_ | refine W.exit ?_ | refine W.ret (Post.ret ?_)); simp only [go_sem, reduceCtorEq, List.getElem?_map, hx, treA, List.length_map, e1, e2, hw]) | refine wT ?_ | refine wF ?_ | refine wC (fun h => ?_) (fun h => ?_)) | ((show AX _ _ _ _ _); (first | refine aP ?_ | refine aF ?_); simp only [go_sem, reduceCtorEq, List.getElem?_map, hx, treA, List.length_map, e1, e2, hw]) | refine iK ?_ | refine aI2 ?_ | (refine hK _ ?_; clear hK K) | clear hK K)
    refine hKL.to (i + 1) (by omega) (by omega) (Fits.fit [(0, 0), (1, 1)] [1, 3, 4] 2 rfl rfl ?_)
    simp only [go_sem, hat]
    exact Fits.rfl
  have e2 : (((t.cs.length : Nat) : Int) == 0) = false := by simp; intro h; apply h0; simp [h]
  have c3 := c2 (by omega)
  clear c2
  have hat : trsN s (i + 1) = insT (tidN s i, trcS s i t) (trsN s i) := by simp [trsN, hx, h0]
  have hl := trsN_len s i
  generalize hacc : trsN s i = acc at hat hl ⊢
  generalize htc : trcS s i t = ss at hat c3
  have htid := tidN_lt hs i hlt
  generalize hid : tidN s i = id at hat c1 htid
  repeat' (first | ((show W _ _ _ _); first | refine W.seq fun K hK => ?_ | refine W.block ?_ | ((first | refine wR ?_ | refine wD ?_ | refine W.skip ?_ | refine W.exit ?_ | refine W.ret (Post.ret ?_)); simp only [go_sem, reduceCtorEq, List.getElem?_map, hx, treA, List.length_map, e1, e2, hw, imR_len]) | refine wT ?_ | refine wF ?_ | refine wC (fun h => ?_) (fun h => ?_)) | ((show AX _ _ _ _ _); (first | refine aP ?_ | refine aF ?_); simp only [go_sem, reduceCtorEq, List.getElem?_map, hx, treA, List.length_map, e1, e2, hw, imR_len]) | refine iK ?_ | refine aI2 ?_ | (refine hK _ ?_; clear hK K) | clear hK K)
  have hK2 : ∀ k : Nat, k ≤ acc.length → posT id acc acc.length = k → ∀ s1 : St, Fits ⟨Tryz.prog, w0, ok0, may, 0, pblk⟩ s1 { t := [(1, .c (.ptr 0 0)), (3, .c (.ref 1)), (4, ft (.int .i64 (i : Nat))), (5, .c (.ptr 2 0)), (6, ft (.int .i64 (k : Nat)))], h := [(0, .box 27 [.im (.sl 91 (s.ts.map treA)), fl (.int .i8 s.o1), fl (.int .i8 s.o2), fl (.int .i8 s.o3), fl (.int .i8 s.o4), .im (.sl 261 s.sy), fl (.int .u8 (s.wr : Nat))]), (1, .row 74 (imR (acc.map trcA))), (2, .box 74 [fl (.int .i64 (id : Nat)), fl (.int .i64 1), .im (.sl 35 (ss.map spA))])], nx := 3, ex := [], nt := 59 } → K s1 := by
    intro k hk hpos s1 hf
    refine hK _ (W.fits hf ?_); clear hK K
    have f1 : decide (k ≤ acc.length) = true := by simp; omega
    have f2 : decide (k + (acc.length - k) ≤ acc.length) = true := by simp; omega
    have f3 : List.take (acc.length - k) (List.drop k (List.map trcA acc)) = List.drop k (List.map trcA acc) := List.take_of_length_le (by simp)
    clear c1 c3
    repeat' (first | ((show W _ _ _ _); first | refine W.seq fun K hK => ?_ | refine W.block ?_ | ((first | refine wR ?_ | refine wD ?_ | refine W.skip ?_ | refine W.exit ?_ | refine W.ret (Post.ret ?_)); simp only [go_sem, reduceCtorEq, List.length_map, imR_len, f1, f2, f3, hw, Nat.sub_zero]) | refine wT ?_ | refine wF ?_ | refine wC (fun h => ?_) (fun h => ?_)) | ((show AX _ _ _ _ _); (first | refine aP ?_ | refine aF ?_); simp only [go_sem, reduceCtorEq, List.length_map, imR_len, f1, f2, f3, hw, Nat.sub_zero]) | refine iK ?_ | refine aI2 ?_ | (refine hK _ ?_; clear hK K) | clear hK K)
    refine hKL.to (i + 1) (by omega) (by omega) (Fits.fit [(0, 0), (14, 1)] [1, 3, 4] 2 rfl rfl ?_)
    simp only [go_sem, hat, insT, hpos, List.map_append, List.map_take, List.map_drop, imR_app, imR_one, imL, trcA, List.map_cons, List.map_nil]
    exact Fits.rfl
  refine W.loopF (T := fun k : Nat => { t := [(1, .c (.ptr 0 0)), (3, .c (.ref 1)), (4, ft (.int .i64 (i : Nat))), (5, .c (.ptr 2 0)), (6, ft (.int .i64 (k : Nat)))], h := [(0, .box 27 [.im (.sl 91 (s.ts.map treA)), fl (.int .i8 s.o1), fl (.int .i8 s.o2), fl (.int .i8 s.o3), fl (.int .i8 s.o4), .im (.sl 261 s.sy), fl (.int .u8 (s.wr : Nat))]), (1, .row 74 (imR (acc.map trcA))), (2, .box 74 [fl (.int .i64 (id : Nat)), fl (.int .i64 1), .im (.sl 35 (ss.map spA))])], nx := 3, ex := [], nt := 59 })
    (Inv := fun k => k ≤ acc.length ∧ posT id acc acc.length = posT id acc k) (μ := fun k => k) (x0 := acc.length) (Fits.fit [(0, 0), (1, 1), (22, 2)] [1, 3, 4, 5, 6] 3 rfl rfl ?_) ⟨Nat.le_refl _, rfl⟩ ?_
  · simp only [go_sem]
    exact Fits.rfl
  clear c1 c3
  rintro k ⟨hk, hinv⟩ KL2 hKL2
  rcases k with _ | n
  · have e3 : decide (((0 : Nat) : Int) > 0) = false := by simp
    clear hK
    repeat' (first | ((show W _ _ _ _); first | refine W.seq fun K hK => ?_ | refine W.block ?_ | ((first | refine wR ?_ | refine wD ?_ | refine W.skip ?_ | refine W.exit ?_ | refine W.ret (Post.ret ?_)); simp only [go_sem, reduceCtorEq, e3]) | refine wT ?_ | refine wF ?_ | refine wC (fun h => ?_) (fun h => ?_)) | ((show AX _ _ _ _ _); (first | refine aP ?_ | refine aF ?_); simp only [go_sem, reduceCtorEq, e3]) | refine iK ?_ | refine aI2 ?_ | (refine hK _ ?_; clear hK K) | clear hK K)
    refine hK2 0 (Nat.zero_le _) (by rw [hinv]; rfl) _ (Fits.fit [(0, 0), (1, 1), (2, 2)] [1, 3, 4, 5, 6] 3 rfl rfl ?_)
    simp only [go_sem]
    exact Fits.rfl
  obtain ⟨y, hy, hym, hyd⟩ := drop_at (show n < acc.length by omega)
  have e3 : decide (((n + 1 : Nat) : Int) > 0) = true := by simp
  have e4 : IntKind.i64.wrap (((n + 1 : Nat) : Int) - 1) = (n : Int) := by rw [w64 (by omega) (by omega)]; omega
  have e5 : decide (n < acc.length) = true := by simp; omega
  have e6 : decide ((y.1 : Int) > (id : Int)) = decide (y.1 > id) := by congr 1; simp
  clear hK
  cases hg : decide (y.1 > id)
  · rw [hg] at e6
    repeat' (first | ((show W _ _ _ _); first | refine W.seq fun K hK => ?_ | refine W.block ?_ | ((first | refine wR ?_ | refine wD ?_ | refine W.skip ?_ | refine W.exit ?_ | refine W.ret (Post.ret ?_)); simp only [go_sem, reduceCtorEq, List.getElem?_map, hy, trcA, imL, imR_len, List.length_map, e3, e4, e5, e6]) | refine wT ?_ | refine wF ?_ | refine wC (fun h => ?_) (fun h => ?_)) | ((show AX _ _ _ _ _); (first | refine aP ?_ | refine aF ?_); simp only [go_sem, reduceCtorEq, List.getElem?_map, hy, trcA, imL, imR_len, List.length_map, e3, e4, e5, e6]) | refine iK ?_ | refine aI2 ?_ | (refine hK _ ?_; clear hK K) | clear hK K)
    refine hK2 (n + 1) (by omega) ?_ _ (Fits.fit [(0, 0), (1, 1), (2, 2)] [1, 3, 4, 5, 6] 3 rfl rfl ?_)
    · rw [hinv]
      simp only [decide_eq_false_iff_not] at hg
      simp [posT, hy]
      omega
    · simp only [go_sem]
      exact Fits.rfl
  · rw [hg] at e6
    repeat' (first | ((show W _ _ _ _); first | refine W.seq fun K hK => ?_ | refine W.block ?_ | ((first | refine wR ?_ | refine wD ?_ | refine W.skip ?_ | refine W.exit ?_ | refine W.ret (Post.ret ?_)); simp only [go_sem, reduceCtorEq, List.getElem?_map, hy, trcA, imL, imR_len, List.length_map, e3, e4, e5, e6]) | refine wT ?_ | refine wF ?_ | refine wC (fun h => ?_) (fun h => ?_)) | ((show AX _ _ _ _ _); (first | refine aP ?_ | refine aF ?_); simp only [go_sem, reduceCtorEq, List.getElem?_map, hy, trcA, imL, imR_len, List.length_map, e3, e4, e5, e6]) | refine iK ?_ | refine aI2 ?_ | (refine hK _ ?_; clear hK K) | clear hK K)
    refine hKL2.to n ⟨by omega, ?_⟩ (by simp) (Fits.fit [(0, 0), (1, 1), (2, 2)] [1, 3, 4, 5, 6] 3 rfl rfl ?_)
    · simp only [decide_eq_true_eq] at hg
      rw [hinv]
      simp [posT, hy]
      omega
    · simp only [go_sem]
      exact Fits.rfl
end Go.Proofs.YtegcmciglakicaaGreat
namespace Go.Proofs.YtegcmciglakicaaGreat
open Go.RowKit Go.Exe
set_option linter.unusedVariables false
set_option linter.unusedSimpArgs false
set_option maxHeartbeats 8000000
set_option maxRecDepth 100000
def flatN (l : List Trc) (n : Nat) : List Spn := (l.take n).flatMap fun x => x.2
def spansS (s : Sto) : List Spn := (trsS s).flatMap fun x => x.2
theorem flatN_at {l : List Trc} {i : Nat} {x : Trc} (h : l[i]? = some x) : flatN l (i + 1) = flatN l i ++ x.2 := by simp [flatN, List.take_add_one, h]
theorem insT_perm (x : Trc) (l : List Trc) : (insT x l).Perm (x :: l) := by
  unfold insT
  rw [List.append_assoc]
  show (l.take (posT x.1 l l.length) ++ x :: l.drop (posT x.1 l l.length)).Perm (x :: l)
  exact List.perm_middle.trans (by rw [List.take_append_drop])
theorem trsN_mem {s : Sto} : ∀ {n : Nat} {x : Trc}, x ∈ trsN s n → ∃ k t, k < n ∧ s.ts[k]? = some t ∧ 0 < t.cs.length ∧ x = (tidN s k, trcS s k t)
  | 0, x, h => by simp [trsN] at h
  | n + 1, x, h => by
    unfold trsN at h
    split at h
    · rename_i t ht
      split at h
      · obtain ⟨k, t, h1, h2⟩ := trsN_mem h
        exact ⟨k, t, by omega, h2⟩
      · rename_i h0
        rcases List.mem_cons.1 ((insT_perm _ _).mem_iff.1 h) with rfl | h
        · exact ⟨n, t, by omega, ht, by omega, rfl⟩
        · obtain ⟨k, t, h1, h2⟩ := trsN_mem h
          exact ⟨k, t, by omega, h2⟩
    · obtain ⟨k, t, h1, h2⟩ := trsN_mem h
      exact ⟨k, t, by omega, h2⟩
theorem trsS_sub {s : Sto} (hs : s.ok) : ∀ x ∈ trsS s, x.2.length ≤ 8 := by
  intro x hx
  obtain ⟨k, t, h1, h2, h3, rfl⟩ := trsN_mem hx
  have := (hs.1 t (List.mem_of_getElem? h2)).2.2.2
  simp [trcS_len, this]
theorem flatN_len {l : List Trc} (h : ∀ x ∈ l, x.2.length ≤ 8) : ∀ n, (flatN l n).length ≤ 8 * n
  | 0 => by simp [flatN]
  | n + 1 => by
    have := flatN_len h n
    cases e : l[n]? with
    | none => simp only [flatN, List.take_add_one, e] at this ⊢; simp at this ⊢; omega
    | some x => rw [flatN_at e, List.length_append]; have := h x (List.mem_of_getElem? e); omega
attribute [local irreducible] W AX Run RunD AStep AOp AOpX AStB AStH AStG Fits PCall GCall PostG Post Stop
theorem spans_c (s : Sto) (hs : s.ok) : PCall Tryz.prog 9 [stoT s] (spsT (spansS s)) := by
  have h3 : (trsS s).length ≤ 3 := Nat.le_trans (trsN_len s _) hs.2.2.2.2.2.2
  have c22 := traces_c s hs
  have h8 := trsS_sub hs
  rw [show spansS s = flatN (trsS s) (trsS s).length by simp [spansS, flatN]]
  generalize trsS s = l at c22 h3 h8 ⊢
  simp only [stoT, stoA, List.map] at c22 ⊢
  refine PCall.intro (nt := 22) (rs := [.tmp 2]) Tryz.func9 rfl ⟨by kernel_rfl, by kernel_rfl, by kernel_rfl⟩ (by simp) ?_
  rintro ⟨P, w0, ok0, may, np, pblk⟩ rfl rfl
  repeat' (first | ((show W _ _ _ _); first | refine W.seq fun K hK => ?_ | refine W.block ?_ | ((first | refine wR ?_ | refine wD ?_ | refine W.skip ?_ | refine W.exit ?_ | refine W.ret (Post.ret ?_)); simp only [go_sem, reduceCtorEq]) | refine wT ?_ | refine wF ?_ | refine wC (fun h => ?_) (fun h => ?_)) | ((show AX _ _ _ _ _); (first | refine aP ?_ | refine aF ?_); simp only [go_sem, reduceCtorEq]) | refine iK ?_ | refine aI2 ?_ | (refine hK _ ?_; clear hK K) | clear hK K)
  refine W.loopF (T := fun i : Nat => { t := [(3, .c (.ref 0)), (4, trcsT l), (5, ft (.int .i64 (i : Nat)))], h := [(0, .row 35 (imR ((flatN l i).map spA)))], nx := 1, ex := [], nt := 22 })
    (Inv := fun i => i ≤ l.length) (μ := fun i => l.length - i) (x0 := 0) ?_ (Nat.zero_le _) ?_
  · refine Fits.adopt 3 99 35 rfl rfl rfl tE35 rfl ?_
    refine Fits.fit [(99, 0)] [3, 4, 5] 1 rfl rfl ?_
    simp only [go_sem, flatN, List.take_zero, List.flatMap_nil, List.map_nil, imR_nil]
    exact Fits.rfl
  clear c22
  rintro i hi KL hKL
  by_cases hlt : i < l.length
  · obtain ⟨x, hx, hm, hd⟩ := drop_at hlt
    have e1 : decide ((i : Int) < l.length) = true := by simp; omega
    have hw := w64s i (by omega)
    have b1 := flatN_len h8 i
    have b2 := h8 x hm
    have hat := flatN_at hx
    repeat' (first | ((show W _ _ _ _); first | refine W.seq fun K hK => ?_ | refine W.block ?_ | ((first | refine wR ?_ | refine wD ?_ | refine W.skip ?_ | refine W.exit ?_ | refine W.ret (Post.ret ?_)); simp only [go_sem, reduceCtorEq, List.getElem?_map, hx, trcA, e1, hw, List.length_map, imR_len]) | refine wT ?_ | refine wF ?_ | refine wC (fun h => ?_) (fun h => ?_)) | ((show AX _ _ _ _ _); (first | refine aP ?_ | refine aF ?_); simp only [go_sem, reduceCtorEq, List.getElem?_map, hx, trcA, e1, hw, List.length_map, imR_len]) | refine iK ?_ | refine aI2 ?_ | (refine hK _ ?_; clear hK K) | clear hK K)
    refine hKL.to (i + 1) (by omega) (by omega) (Fits.fit [(11, 0)] [3, 4, 5] 1 rfl rfl ?_)
    simp only [go_sem, hat, List.map_append, imR_app]
    exact Fits.rfl
  · obtain rfl : i = l.length := by omega
    have e1 : decide ((l.length : Int) < l.length) = false := by simp
    clear hKL
    repeat' (first | ((show W _ _ _ _); first | refine W.seq fun K hK => ?_ | refine W.block ?_ | ((first | refine wR ?_ | refine wD ?_ | refine W.skip ?_ | refine W.exit ?_ | refine W.ret (Post.ret ?_)); simp only [go_sem, reduceCtorEq, e1, List.length_map]) | refine wT ?_ | refine wF ?_ | refine wC (fun h => ?_) (fun h => ?_)) | ((show AX _ _ _ _ _); (first | refine aP ?_ | refine aF ?_); simp only [go_sem, reduceCtorEq, e1, List.length_map]) | refine iK ?_ | refine aI2 ?_ | (refine hK _ ?_; clear hK K) | clear hK K)
def trIds (l : List Spn) (n : Nat) : List Int := ((l.take n).map Spn.tr).foldl addK []
theorem addK_le (ks : List Int) (k : Int) : (addK ks k).length ≤ ks.length + 1 := by
  unfold addK
  split <;> simp
theorem trIds_at {l : List Spn} {i : Nat} {x : Spn} (h : l[i]? = some x) : trIds l (i + 1) = addK (trIds l i) x.tr := by simp [trIds, List.take_add_one, h]
theorem trIds_le (l : List Spn) : ∀ n, (trIds l n).length ≤ n
  | 0 => by simp [trIds]
  | n + 1 => by
    have := trIds_le l n
    cases e : l[n]? with
    | none => simp only [trIds, List.take_add_one, e] at this ⊢; simp at this ⊢; omega
    | some x => rw [trIds_at e]; have := addK_le (trIds l n) x.tr; omega
def tracesS (l : List Spn) : List Int := srtI (trIds l l.length)
theorem traceIds_c (c60 : SortI Tryz.prog 60) (l : List Spn) (hI : ∀ x ∈ l, I64 x.tr) : PCall Tryz.prog 10 [spsT l] (intsT (tracesS l)) := by
  refine PCall.intro (nt := 20) (rs := [.tmp 2]) Tryz.func10 rfl ⟨by kernel_rfl, by kernel_rfl, by kernel_rfl⟩ (by simp) ?_
  rintro ⟨P, w0, ok0, may, np, pblk⟩ rfl rfl
  refine W.lenB 0 rfl tE35 fun hb0 hb => ?_
  rw [List.length_map] at hb
  have hlen := trIds_le l l.length
  have hkey := keys_c (trIds l l.length)
  have hsrt := sorted_c c60 (trIds l l.length) (by omega)
  repeat' (first | ((show W _ _ _ _); first | refine W.seq fun K hK => ?_ | refine W.block ?_ | ((first | refine wR ?_ | refine wD ?_ | refine W.skip ?_ | refine W.exit ?_ | refine W.ret (Post.ret ?_)); simp only [go_sem, reduceCtorEq]) | refine wT ?_ | refine wF ?_ | refine wC (fun h => ?_) (fun h => ?_)) | ((show AX _ _ _ _ _); (first | refine aP ?_ | refine aF ?_ | refine aL ?_ | refine aU ?_ | refine aM ?_ | refine aN ?_ | refine aR ?_); simp only [go_sem, reduceCtorEq]) | refine iK ?_ | refine aI2 ?_ | (refine hK _ ?_; clear hK K) | clear hK K)
  refine W.loopF (T := fun i : Nat => { t := [(3, .c (.mp 0)), (7, spsT l), (8, ft (.int .i64 l.length)), (9, ft (.int .i64 (i : Nat)))], h := [(0, .map 3 (msE (trIds l i)))], nx := 1, ex := [], nt := 20 })
    (Inv := fun i => i ≤ l.length) (μ := fun i => l.length - i) (x0 := 0) (Fits.fit [(1, 0)] [3, 7, 8, 9] 1 rfl rfl ?_) (Nat.zero_le _) ?_
  · simp only [go_sem, trIds, List.take_zero, List.map_nil, List.foldl_nil, msE, List.length_map]
    exact Fits.rfl
  rintro i hi KL hKL
  by_cases hlt : i < l.length
  · obtain ⟨x, hx, hm, hd⟩ := drop_at hlt
    have e1 : decide ((i : Int) < l.length) = true := by simp; omega
    have hw := w64s i (by omega)
    have hko := koI (hI x hm)
    have hat := trIds_at hx
    have hput := msE_put (trIds l i) x.tr
    clear hkey hsrt
    rcases msE_mget (.int .i64 x.tr) (trIds l i) with hq | hq
    all_goals
      repeat' (first | ((show W _ _ _ _); first | refine W.seq fun K hK => ?_ | refine W.block ?_ | ((first | refine wR ?_ | refine wD ?_ | refine W.skip ?_ | refine W.exit ?_ | refine W.ret (Post.ret ?_)); simp only [go_sem, reduceCtorEq, List.getElem?_map, hx, spA, e1, hw, hput, hq]) | refine wT ?_ | refine wF ?_ | refine wC (fun h => ?_) (fun h => ?_)) | ((show AX _ _ _ _ _); (first | refine aP ?_ | refine aF ?_ | refine aL ?_ | refine aU (hnn := by simp only [go_sem, reduceCtorEq, List.getElem?_map, hx, spA, e1, hw, hput, hq]) ?_ | refine aM ?_ | refine aN ?_ | refine aR ?_); simp only [go_sem, reduceCtorEq, List.getElem?_map, hx, spA, e1, hw, hput, hq]) | refine iK ?_ | refine aI2 ?_ | (refine hK _ ?_; clear hK K) | clear hK K)
      refine hKL.to (i + 1) (by omega) (by omega) (Fits.fit [(0, 0)] [3, 7, 8, 9] 1 rfl rfl ?_)
      simp only [go_sem, rnEs_msE, hat]
      exact Fits.rfl
  · obtain rfl : i = l.length := by omega
    have e1 : decide ((l.length : Int) < l.length) = false := by simp
    clear hKL
    repeat' (first | ((show W _ _ _ _); first | refine W.stop (id := 7) ?_ | refine W.seq fun K hK => ?_ | refine W.block ?_ | ((first | refine wR ?_ | refine wD ?_ | refine W.skip ?_ | refine W.exit ?_ | refine W.ret (Post.ret ?_)); simp only [go_sem, reduceCtorEq, e1]) | refine wT ?_ | refine wF ?_ | refine wC (fun h => ?_) (fun h => ?_)) | ((show AX _ _ _ _ _); (first | refine aP ?_ | refine aF ?_ | refine aL ?_ | refine aU (hnn := by simp only [go_sem, reduceCtorEq, e1]) ?_ | refine aM ?_ | refine aN ?_ | refine aR ?_); simp only [go_sem, reduceCtorEq, e1]) | refine iK ?_ | refine aI2 ?_ | (refine hK _ ?_; clear hK K) | clear hK K)
    refine Stop.out ?_
    refine W.fits (Fits.freezeM 0 rfl (msE_close _) Fits.rfl) ?_
    simp only [go_sem]
    repeat' (first | ((show W _ _ _ _); first | refine W.seq fun K hK => ?_ | refine W.block ?_ | ((first | refine wR ?_ | refine wD ?_ | refine W.skip ?_ | refine W.exit ?_ | refine W.ret (Post.ret ?_)); simp only [go_sem, reduceCtorEq]) | refine wT ?_ | refine wF ?_ | refine wC (fun h => ?_) (fun h => ?_)) | ((show AX _ _ _ _ _); (first | refine aP ?_ | refine aF ?_ | refine aL ?_ | refine aU ?_ | refine aM ?_ | refine aN ?_ | refine aR ?_); simp only [go_sem, reduceCtorEq]) | refine iK ?_ | refine aI2 ?_ | (refine hK _ ?_; clear hK K) | clear hK K)
    refine AX.gcall [] rfl rfl (hsrt) (by simp only [go_sem, reduceCtorEq]) (by simp only [go_sem, reduceCtorEq]) rfl rfl (by simp only [go_sem, Obj.owns]) rfl (by simp only [go_sem, Obj.owns]) rfl rfl ?_
    simp only [go_sem, reduceCtorEq]
    repeat' (first | ((show W _ _ _ _); first | refine W.seq fun K hK => ?_ | refine W.block ?_ | ((first | refine wR ?_ | refine wD ?_ | refine W.skip ?_ | refine W.exit ?_ | refine W.ret (Post.ret ?_)); simp only [go_sem, reduceCtorEq]) | refine wT ?_ | refine wF ?_ | refine wC (fun h => ?_) (fun h => ?_)) | ((show AX _ _ _ _ _); (first | refine aP ?_ | refine aF ?_ | refine aL ?_ | refine aU ?_ | refine aM ?_ | refine aN ?_ | refine aR ?_); simp only [go_sem, reduceCtorEq]) | refine iK ?_ | refine aI2 ?_ | (refine hK _ ?_; clear hK K) | clear hK K)
    all_goals rfl
end Go.Proofs.YtegcmciglakicaaGreat
namespace Go.Proofs.YtegcmciglakicaaGreat
open Go.RowKit Go.Exe
set_option linter.unusedVariables false
set_option linter.unusedSimpArgs false
/-! ### the spans of ShapeCycles -/
def sv3 (n : Nat) : ByteArray := if n = 0 then ⟨#[97]⟩ else if n = 1 then ⟨#[98]⟩ else ⟨#[99]⟩
def cyS (i : Nat) (x : Nat × Nat) : Spn := ⟨3, ((i + 1 : Nat) : Int), ((x.1 % 10 : Nat) : Int), 0, 1, 1, sv3 (x.2 % 3), .empty, ⟨#[111]⟩, 0, 0, false, [], []⟩
def cyL (p : List (Nat × Nat)) : List Spn := p.zipIdx.map fun y => cyS y.2 y.1
def lpA (x : Nat × Nat) : List AV := [.flat (.int .u8 (x.1 : Int)), .flat (.int .u8 (x.2 : Int))]
/-- The same cells, as they are built: nil slices. -/
def cyA (s : Spn) : List AV := [.flat (.int .i64 s.tr), .flat (.int .i64 s.id), .flat (.int .i64 s.pa), .flat (.int .i64 s.rev), .flat (.int .i64 s.clk), .flat (.int .i64 s.kd), .flat (.string s.sv), .flat (.string s.ve), .flat (.string s.op), .flat (.int .i64 s.st), .flat (.int .i64 s.en), .flat (.bool s.er), .flat (.slice none 0 0), .flat (.slice none 0 0)]
theorem cyL_at {p : List (Nat × Nat)} {i : Nat} {x : Nat × Nat} (h : p[i]? = some x) : (cyL p)[i]? = some (cyS i x) := by
  have : p.zipIdx[i]? = some (x, i) := by simp [List.getElem?_zipIdx, h]
  simp [cyL, this]
theorem cyL_len (p : List (Nat × Nat)) : (cyL p).length = p.length := by simp [cyL]
theorem cyL_mem {p : List (Nat × Nat)} {s : Spn} (h : s ∈ cyL p) : ∃ i x, p[i]? = some x ∧ s = cyS i x := by
  obtain ⟨i, hi⟩ := List.getElem?_of_mem h
  have hl := (List.getElem?_eq_some_iff.1 hi).1
  rw [cyL_len] at hl
  have hx : p[i]? = some p[i] := List.getElem?_eq_getElem hl
  rw [cyL_at hx] at hi
  exact ⟨i, _, hx, (Option.some.inj hi).symm⟩
theorem cyL_sorted (p : List (Nat × Nat)) : (cyL p).Pairwise fun a b => a.id < b.id := by
  rw [List.pairwise_iff_getElem]
  intro i j hi hj hij
  have h1 : i < p.length := by rw [cyL_len] at hi; exact hi
  have h2 : j < p.length := by rw [cyL_len] at hj; exact hj
  have e1 := cyL_at (List.getElem?_eq_getElem h1)
  have e2 := cyL_at (List.getElem?_eq_getElem h2)
  rw [List.getElem?_eq_getElem hi] at e1
  rw [List.getElem?_eq_getElem hj] at e2
  rw [Option.some.inj e1, Option.some.inj e2]
  show ((i + 1 : Nat) : Int) < ((j + 1 : Nat) : Int)
  omega
theorem cyA_le (s : Spn) (h1 : s.ats = []) (h2 : s.lks = []) : Al CLe ((cyA s).map Cell.im) ((spA s).map Cell.im) := by
  simp only [cyA, spA, List.map, h1, h2]
  repeat (first | exact Al.nil | (refine Al.cons (by first | exact CLe.rfl | exact CLe.nil) ?_))
theorem cyL_le (p : List (Nat × Nat)) : Al (Al CLe) (imR ((cyL p).map cyA)) (imR ((cyL p).map spA)) := by
  refine ⟨by simp [imR], fun i u x hu hx => ?_⟩
  simp only [imR, List.map_map, List.getElem?_map, Option.map_eq_some_iff] at hu hx
  obtain ⟨s, hs, rfl⟩ := hu
  obtain ⟨s', hs', rfl⟩ := hx
  rw [hs] at hs'
  cases hs'
  obtain ⟨j, y, _, rfl⟩ := cyL_mem (List.mem_of_getElem? hs)
  exact cyA_le _ rfl rfl
/-! ### records in order, each an id of its own -/
/-- All records of one trace, in the order of their ids. -/
theorem srt_id {l : List Spn} {t : Int} (ht : ∀ s ∈ l, s.tr = t) (hs : l.Pairwise fun a b => a.id < b.id) : l.Pairwise fun a b => a.cmp b < 0 := by
  have : l.Pairwise fun a b => a ∈ l ∧ b ∈ l := List.pairwise_of_forall_mem_list fun a ha b hb => ⟨ha, hb⟩
  refine (hs.and this).imp fun {a b} ⟨hab, ha, hb⟩ => ?_
  have h1 := ht a ha
  have h2 := ht b hb
  have e : cmpI a.id b.id = -1 := by unfold cmpI; rw [if_pos hab]
  have e2 : cmpsG cmpI a.ints b.ints = -1 := by
    have e0 : cmpI a.tr b.tr = 0 := by rw [h1, h2]; simp [cmpI]
    simp [Spn.ints, cmpsG, e, e0]
  simp [Spn.cmp, orL, e2]
theorem compT_fix : ∀ (l : List Spn) (p : Spn), (p :: l).Pairwise (fun a b => a.cmp b < 0) → compT p l = l
  | [], _, _ => rfl
  | x :: r, p, h => by
    have h1 := (List.pairwise_cons.1 h).1 x (by simp)
    have h2 := lwSp.anti p x
    have h3 : (x.cmp p == 0) = false := by simp; omega
    simp only [compT, h3, Bool.false_eq_true, if_false]
    rw [compT_fix r x (List.pairwise_cons.1 h).2]
theorem setS_fix {l : List Spn} (h : l.Pairwise fun a b => a.cmp b < 0) : setS l = l := by
  have h1 : srtG Spn.cmp l = l := (lwSp.srt_uni (List.Perm.refl _) (h.imp fun {a b} hab => by have := lwSp.anti a b; omega)).symm
  rw [setS, h1]
  cases l with
  | nil => rfl
  | cons x r => simp only [compG]; rw [compT_fix r x h]
theorem chosen_all {l : List Spn} {keep : Nat → Bool} (h : ∀ i, i < l.length → keep i = true) : ∀ n, n ≤ l.length → chosenN keep l n = l.take n
  | 0, _ => by simp [chosenN]
  | n + 1, hn => by
    rw [chosenN, chosen_all h n (by omega), h n (by omega), List.take_add_one, List.getElem?_eq_getElem (by omega)]
    simp [List.getD_eq_getElem?_getD, List.getElem?_eq_getElem (show n < l.length by omega)]
theorem ofS_fix {l : List Spn} {t : Int} (ht : ∀ s ∈ l, s.tr = t) (hs : l.Pairwise fun a b => a.id < b.id) : ofS l t = l := by
  have hf : (l.filter fun x => !(x.tr != t)) = l := by
    rw [List.filter_eq_self]
    intro x hx
    simp [ht x hx]
  have h1 := setS_fix (srt_id ht hs)
  unfold ofS
  rw [hf]
  unfold winS
  rw [h1, chosen_all (fun i hi => ?_) l.length (Nat.le_refl _), List.take_length]
  unfold isLast
  rw [List.getElem?_eq_getElem hi]
  by_cases h2 : i + 1 < l.length
  · rw [List.getElem?_eq_getElem h2]
    have := List.pairwise_iff_getElem.1 hs i (i + 1) hi h2 (by omega)
    have h3 : (l[i + 1].id == l[i].id) = false := by simp; omega
    simp [h3]
  · rw [List.getElem?_eq_none (by omega)]
def cntI (ss : List Spn) (i : Nat) : Nat := ((ss.take i).filter fun s => decide (depN ss ss.length s.id < 0)).length
theorem cntI_step {ss : List Spn} {i : Nat} {s : Spn} (h : ss[i]? = some s) : cntI ss (i + 1) = cntI ss i + if depN ss ss.length s.id < 0 then 1 else 0 := by
  unfold cntI
  rw [take_s h, List.filter_append, List.length_append]
  by_cases hd : depN ss ss.length s.id < 0 <;> simp [hd]
theorem cntI_le (ss : List Spn) (i : Nat) : cntI ss i ≤ i := by
  have := List.length_filter_le (fun s : Spn => decide (depN ss ss.length s.id < 0)) (ss.take i)
  rw [List.length_take] at this
  unfold cntI; omega
theorem cyL_tr {p : List (Nat × Nat)} : ∀ s ∈ cyL p, s.tr = 3 := fun s hs => by
  obtain ⟨i, x, _, rfl⟩ := cyL_mem hs; rfl
theorem cyL_I {p : List (Nat × Nat)} (h8 : p.length ≤ 8) : ∀ s ∈ cyL p, I64 s.id ∧ I64 s.pa := fun s hs => by
  obtain ⟨i, x, hx, rfl⟩ := cyL_mem hs
  have := (List.getElem?_eq_some_iff.1 hx).1
  simp only [cyS, I64]
  omega
end Go.Proofs.YtegcmciglakicaaGreat
namespace Go.Proofs.YtegcmciglakicaaGreat
open Go.RowKit Go.Exe
set_option linter.unusedVariables false
set_option linter.unusedSimpArgs false
theorem bestN_one {l : List Spn} {t : Int} (ht : ∀ s ∈ l, s.tr = t) (hn : (idsOf l).Nodup) {k : Nat} {p : Spn} (hk : l[k]? = some p) : ∀ n, bestN l (t, p.id) n = if k < n then some k else none
  | 0 => by simp [bestN]
  | n + 1 => by
    have ih := bestN_one ht hn hk n
    have hkl := (List.getElem?_eq_some_iff.1 hk).1
    simp only [bestN]
    cases hx : l[n]? with
    | none =>
      simp only
      rw [ih]
      have := List.getElem?_eq_none_iff.1 hx
      rw [if_pos (by omega), if_pos (by omega)]
    | some x =>
      simp only
      have hxm := List.mem_of_getElem? hx
      by_cases hnk : n = k
      · subst hnk
        rw [hk] at hx
        cases hx
        rw [ih, if_neg (Nat.lt_irrefl n)]
        simp [better, ht p (List.mem_of_getElem? hk)]
      · have hne : ¬ x.id = p.id := fun e => by
          have h1 : (idsOf l)[n]? = some x.id := by simp [idsOf, hx]
          have h2 : (idsOf l)[k]? = some p.id := by simp [idsOf, hk]
          obtain ⟨h3, h4⟩ := List.getElem?_eq_some_iff.1 h1
          obtain ⟨h5, h6⟩ := List.getElem?_eq_some_iff.1 h2
          exact hnk ((List.getElem_inj hn).1 (by rw [h4, h6, e]))
        have h1 : ((x.tr == t) && (x.id == p.id)) = false := by simp [hne]
        rw [h1, ih]
        simp only [Bool.false_eq_true, if_false]
        split <;> split <;> first | rfl | omega
theorem bestS_one {l : List Spn} {t : Int} (ht : ∀ s ∈ l, s.tr = t) (hn : (idsOf l).Nodup) : ∀ p ∈ l, bestS l (t, p.id) = some p := fun p hp => by
  obtain ⟨k, hk⟩ := List.getElem?_of_mem hp
  have hkl := (List.getElem?_eq_some_iff.1 hk).1
  rw [bestS, bestN_one ht hn hk, if_pos hkl]
  simpa using hk
/-! ### the model's shapes are the program's -/
theorem canons_fix {l : List Shp} (h : ∀ x ∈ l, x.canon = x) : canons l = l := by
  rw [canons_map]
  exact (List.map_congr_left h).trans (List.map_id' l)
theorem canon_srt {s o : ByteArray} {l : List Shp} (h : ∀ x ∈ l, x.canon = x) : (Shp.mk s o (srt l)).canon = .mk s o (srt l) := by
  have h2 : ∀ x ∈ srt l, x.canon = x := fun x hx => h x ((srt_perm l).subset hx)
  simp only [Shp.canon]
  rw [canons_fix h2, srt_fix (srt_sorted l)]
theorem shpF_canon (ss : List Spn) : ∀ (f : Nat) (id : Int), (shpF ss f id).canon = shpF ss f id
  | 0, id => rfl
  | f + 1, id => by
    simp only [shpF]
    split
    · refine canon_srt fun x hx => ?_
      obtain ⟨c, _, rfl⟩ := List.mem_map.1 hx
      exact shpF_canon ss f c
    · rfl
theorem ofM_shpF (ss : List Spn) : ∀ (f : Nat) (id : Int), ofM ss f id = shpF ss f id
  | 0, id => rfl
  | f + 1, id => by
    cases h : spnOf ss id with
    | some p =>
      simp only [ofM, shpF, h]
      rw [show (kidsF ss id).map (ofM ss f) = (kidsF ss id).map (shpF ss f) from List.map_congr_left fun c _ => ofM_shpF ss f c]
      simp only [Shp.canon]
      rw [canons_fix fun x hx => by obtain ⟨c, _, rfl⟩ := List.mem_map.1 hx; exact shpF_canon ss f c]
    | none => simp only [ofM, shpF, h]
theorem traceM_eq (ss : List Spn) (f : Nat) (ks : List Int) : (Shp.mk .empty .empty (ks.map (ofM ss f))).canon = .mk .empty .empty (srt (ks.map (shpF ss f))) := by
  rw [show ks.map (ofM ss f) = ks.map (shpF ss f) from List.map_congr_left fun c _ => ofM_shpF ss f c]
  simp only [Shp.canon]
  rw [canons_fix fun x hx => by obtain ⟨c, _, rfl⟩ := List.mem_map.1 hx; exact shpF_canon ss f c]
/-! ### how large -/
theorem filt_len {α : Type} (p : α → Bool) : ∀ l : List α, (l.filter fun x => !p x).length + (l.filter p).length = l.length
  | [] => rfl
  | x :: r => by
    have := filt_len p r
    cases h : p x <;> simp [h] <;> omega
theorem sizes_perm' {l m : List Shp} (h : l.Perm m) : sizes l = sizes m := by
  induction h with
  | nil => rfl
  | cons x _ ih => simp only [sizes, ih]
  | swap x y l => simp only [sizes]; omega
  | trans _ _ h1 h2 => rw [h1, h2]
theorem sizes_lev {ss : List Spn} (hn : (idsOf ss).Nodup) : ∀ (f d : Nat), sizes ((lev ss d).map (shpF ss f)) = ((List.range (f + 1)).map fun e => (lev ss (d + e)).length).sum
  | 0, d => by
    have : ∀ l : List Int, sizes (l.map (shpF ss 0)) = l.length := by
      intro l
      induction l with
      | nil => rfl
      | cons x r ih =>
        have hx : (shpF ss 0 x).size = 1 := by simp [shpF, Shp.size, sizes]
        simp only [List.map_cons, sizes, hx, List.length_cons]
        rw [ih]
        omega
    simp [this]
  | f + 1, d => by
    have ih := sizes_lev hn f (d + 1)
    have key : ∀ l : List Int, (∀ x ∈ l, x ∈ idsOf ss) → sizes (l.map (shpF ss (f + 1))) = l.length + sizes ((l.flatMap (kidsF ss)).map (shpF ss f)) := by
      intro l
      induction l with
      | nil => intro _; rfl
      | cons x r ihr =>
        intro h
        obtain ⟨p, hp, rfl⟩ := List.mem_map.1 (h x (by simp))
        have h1 : (shpF ss (f + 1) p.id).size = 1 + sizes ((kidsF ss p.id).map (shpF ss f)) := by
          simp only [shpF, spnOf_at hn hp, Shp.size]
          rw [sizes_perm' (srt_perm _)]
        simp only [List.map_cons, sizes, List.flatMap_cons, List.map_append, sizes_app, List.length_cons]
        rw [h1, ihr fun y hy => h y (by simp [hy])]
        omega
    rw [key _ fun x hx => lev_ids d hx]
    rw [show (lev ss d).flatMap (kidsF ss) = lev ss (d + 1) from rfl, ih, List.range_succ_eq_map (n := f + 1)]
    simp only [List.map_cons, List.map_map, List.sum_cons, Nat.add_zero, Function.comp_def]
    congr 2
    refine List.map_congr_left fun e _ => ?_
    rw [show d + 1 + e = d + (e + 1) by omega]
def cycC (ss : List Spn) : Nat := (ss.filter fun s => decide (depN ss ss.length s.id < 0)).length
theorem depN_of {ss : List Spn} (hn : (idsOf ss).Nodup) {x : Int} {e : Nat} (h : x ∈ lev ss e) : ∀ d, e < d → depN ss d x = e
  | d + 1, hd => by
    simp only [depN]
    by_cases h1 : x ∈ lev ss d
    · rw [if_pos h1, lev_one hn d e h1 h]
    · rw [if_neg h1]
      exact depN_of hn h d (by
        have : d ≠ e := fun e' => h1 (e' ▸ h)
        omega)
theorem size_all {n : Nat} {ss : List Spn} (hn : (idsOf ss).Nodup) (hl : ss.length = n) : sizes ((lev ss 0).map (shpF ss n)) + cycC ss = n := by
  subst hl
  rw [sizes_lev hn]
  have hend : lev ss ss.length = [] := by
    cases h : lev ss ss.length with
    | nil => rfl
    | cons a b => have := dep_lt hn (d := ss.length) (by rw [h]; simp); omega
  have h1 : ((List.range (ss.length + 1)).map fun e => (lev ss (0 + e)).length).sum = ((List.range ss.length).flatMap (lev ss)).length := by
    rw [List.range_succ, List.map_append, List.sum_append]
    simp [hend, List.length_flatMap]
  rw [h1]
  have nd1 : ((List.range ss.length).flatMap (lev ss)).Nodup := List.pairwise_flatMap.2 ⟨fun a _ => lev_nodup hn a, (List.nodup_range (n := ss.length)).imp fun {a b} hab x hx y hy e => hab (lev_one hn a b hx (e ▸ hy))⟩
  have nd2 : ((ss.filter fun s => !decide (depN ss ss.length s.id < 0)).map Spn.id).Nodup := hn.sublist (List.Sublist.map _ List.filter_sublist)
  have s1 : (List.range ss.length).flatMap (lev ss) ⊆ (ss.filter fun s => !decide (depN ss ss.length s.id < 0)).map Spn.id := fun x hx => by
    obtain ⟨e, he, hx⟩ := List.mem_flatMap.1 hx
    obtain ⟨p, hp, rfl⟩ := List.mem_map.1 (lev_ids e hx)
    refine List.mem_map_of_mem (List.mem_filter.2 ⟨hp, ?_⟩)
    rw [depN_of hn hx ss.length (List.mem_range.1 he)]
    simp
  have s2 : (ss.filter fun s => !decide (depN ss ss.length s.id < 0)).map Spn.id ⊆ (List.range ss.length).flatMap (lev ss) := fun x hx => by
    obtain ⟨p, hp, rfl⟩ := List.mem_map.1 hx
    obtain ⟨hp, hd⟩ := List.mem_filter.1 hp
    obtain ⟨e, he⟩ := depN_mem (ss := ss) (x := p.id) ss.length (by simpa using hd)
    have := dep_lt hn (d := e) (List.ne_nil_of_mem he)
    exact List.mem_flatMap.2 ⟨e, List.mem_range.2 this, he⟩
  have l1 := nd1.length_le_of_subset s1
  have l2 := nd2.length_le_of_subset s2
  have l3 : (ss.filter fun s => !decide (depN ss ss.length s.id < 0)).length + cycC ss = ss.length := filt_len _ _
  rw [List.length_map] at l1 l2
  omega
end Go.Proofs.YtegcmciglakicaaGreat
namespace Go.Proofs.YtegcmciglakicaaGreat
open Go.RowKit Go.Exe
set_option linter.unusedVariables false
set_option linter.unusedSimpArgs false
/-! ### what is seen of records with an id of their own in each trace -/
def trF (l : List Spn) (t : Int) : List Spn := l.filter fun x => !(x.tr != t)
theorem mem_trF {l : List Spn} {t : Int} {s : Spn} : s ∈ trF l t ↔ s ∈ l ∧ s.tr = t := by simp [trF]
theorem setS_perm {l ss : List Spn} (hp : l.Perm ss) (h : ss.Pairwise fun a b => a.cmp b < 0) : setS l = ss := by
  have h1 : srtG Spn.cmp l = ss := (lwSp.srt_uni hp.symm (h.imp fun {a b} hab => by have := lwSp.anti a b; omega)).symm
  rw [setS, h1]
  cases ss with
  | nil => rfl
  | cons x r => simp only [compG]; rw [compT_fix r x h]
theorem ofS_perm {l ss : List Spn} {t : Int} (hp : (trF l t).Perm ss) (hs : ss.Pairwise fun a b => a.id < b.id) : ofS l t = ss := by
  have ht : ∀ s ∈ ss, s.tr = t := fun s h => (mem_trF.1 (hp.mem_iff.2 h)).2
  have h1 := setS_perm hp (srt_id ht hs)
  show winS (trF l t) = ss
  unfold winS
  rw [h1, chosen_all (fun i hi => ?_) ss.length (Nat.le_refl _), List.take_length]
  unfold isLast
  rw [List.getElem?_eq_getElem hi]
  by_cases h2 : i + 1 < ss.length
  · rw [List.getElem?_eq_getElem h2]
    have := List.pairwise_iff_getElem.1 hs i (i + 1) hi h2 (by omega)
    have h3 : (ss[i + 1].id == ss[i].id) = false := by simp; omega
    simp [h3]
  · rw [List.getElem?_eq_none (by omega)]
abbrev refO (s : Spn) : Rf := (s.tr, s.id)
theorem bestN_uni {l : List Spn} (hn : (l.map refO).Nodup) {k : Nat} {p : Spn} (hk : l[k]? = some p) : ∀ n, bestN l (p.tr, p.id) n = if k < n then some k else none
  | 0 => by simp [bestN]
  | n + 1 => by
    have ih := bestN_uni hn hk n
    have hkl := (List.getElem?_eq_some_iff.1 hk).1
    simp only [bestN]
    cases hx : l[n]? with
    | none =>
      simp only
      rw [ih]
      have := List.getElem?_eq_none_iff.1 hx
      rw [if_pos (by omega), if_pos (by omega)]
    | some x =>
      simp only
      by_cases hnk : n = k
      · subst hnk
        rw [hk] at hx
        cases hx
        rw [ih, if_neg (Nat.lt_irrefl n)]
        simp [better]
      · have hne : ¬ (x.tr = p.tr ∧ x.id = p.id) := fun e => by
          have h1 : (l.map refO)[n]? = some (refO x) := by simp [hx]
          have h2 : (l.map refO)[k]? = some (refO p) := by simp [hk]
          obtain ⟨h3, h4⟩ := List.getElem?_eq_some_iff.1 h1
          obtain ⟨h5, h6⟩ := List.getElem?_eq_some_iff.1 h2
          exact hnk ((List.getElem_inj hn).1 (by rw [h4, h6]; simp [refO, e.1, e.2]))
        have h1 : ((x.tr == p.tr) && (x.id == p.id)) = false := by
          rw [Bool.eq_false_iff]
          simpa using hne
        rw [h1, ih]
        simp only [Bool.false_eq_true, if_false]
        split <;> split <;> first | rfl | omega
theorem bestS_uni {l : List Spn} (hn : (l.map refO).Nodup) {p : Spn} (hp : p ∈ l) : bestS l (p.tr, p.id) = some p := by
  obtain ⟨k, hk⟩ := List.getElem?_of_mem hp
  have hkl := (List.getElem?_eq_some_iff.1 hk).1
  rw [bestS, bestN_uni hn hk, if_pos hkl]
  simpa using hk
theorem bestN_none {l : List Spn} {r : Rf} (h : ∀ p ∈ l, ¬ (p.tr = r.1 ∧ p.id = r.2)) : ∀ n, bestN l r n = none
  | 0 => rfl
  | n + 1 => by
    simp only [bestN]
    rw [bestN_none h n]
    cases hx : l[n]? with
    | none => rfl
    | some x =>
      have h1 : ((x.tr == r.1) && (x.id == r.2)) = false := by
        rw [Bool.eq_false_iff]
        simpa using h x (List.mem_of_getElem? hx)
      simp only [h1]
      rfl
theorem bestS_none {l : List Spn} {r : Rf} (h : ∀ p ∈ l, ¬ (p.tr = r.1 ∧ p.id = r.2)) : bestS l r = none := by
  rw [bestS, bestN_none h]; rfl
/-- All records of a list: each trace an id of its own for each, no span on a cycle. -/
structure Gd (l : List Spn) : Prop where
  int : ∀ s ∈ l, I64 s.tr ∧ I64 s.id ∧ I64 s.pa
  srt : ∀ t, (trF l t).Pairwise fun a b => a.id < b.id
  lev : ∀ t, ∀ s ∈ trF l t, ∃ e, s.id ∈ lev (trF l t) e
  uni : (l.map refO).Nodup
theorem Gd.of {l : List Spn} (h : Gd l) (t : Int) : ofS l t = trF l t := ofS_perm (List.Perm.refl _) (h.srt t)
theorem Gd.nd {l : List Spn} (h : Gd l) (t : Int) : (idsOf (trF l t)).Nodup := nodup_sorted (h.srt t)
theorem Gd.ints {l : List Spn} (h : Gd l) (t : Int) : ∀ s ∈ trF l t, I64 s.id ∧ I64 s.pa := fun s hs => (h.int s (mem_trF.1 hs).1).2
theorem Gd.best {l : List Spn} (h : Gd l) {t : Int} : ∀ p ∈ trF l t, bestS l (t, p.id) = some p := fun p hp => by
  obtain ⟨h1, h2⟩ := mem_trF.1 hp
  rw [← h2]
  exact bestS_uni h.uni h1
theorem Gd.dep {l : List Spn} (h : Gd l) {t : Int} {s : Spn} (hs : s ∈ trF l t) : ¬ depN (trF l t) (trF l t).length s.id < 0 := by
  obtain ⟨e, he⟩ := h.lev t s hs
  have := dep_lt (h.nd t) (List.ne_nil_of_mem he)
  rw [depN_of (h.nd t) he _ this]
  omega
theorem Gd.cyc {l : List Spn} (h : Gd l) (t : Int) : cycC (trF l t) = 0 := by
  unfold cycC
  rw [List.length_eq_zero_iff, List.filter_eq_nil_iff]
  intro s hs
  simpa using h.dep hs
/-! ### the records of a story -/
theorem spn_tr (s : Sto) (k : Nat) (t : Tre) : ∀ x ∈ trcS s k t, x.tr = (tidN s k : Nat) := fun x hx => by
  obtain ⟨i, hi⟩ := List.getElem?_of_mem hx
  have hl := (List.getElem?_eq_some_iff.1 hi).1
  rw [trcS_len] at hl
  rw [trcS_at (List.getElem?_eq_getElem hl)] at hi
  cases hi
  rfl
theorem trcS_mem {s : Sto} {k : Nat} {t : Tre} {x : Spn} (hx : x ∈ trcS s k t) : ∃ i c, t.cs[i]? = some c ∧ x = spnS s k t i c := by
  obtain ⟨i, hi⟩ := List.getElem?_of_mem hx
  have hl := (List.getElem?_eq_some_iff.1 hi).1
  rw [trcS_len] at hl
  rw [trcS_at (List.getElem?_eq_getElem hl)] at hi
  cases hi
  exact ⟨i, _, List.getElem?_eq_getElem hl, rfl⟩
theorem trcS_sorted (s : Sto) (k : Nat) (t : Tre) : (trcS s k t).Pairwise fun a b => a.id < b.id := by
  rw [List.pairwise_iff_getElem]
  intro i j hi hj hij
  have h1 : i < t.cs.length := by rw [trcS_len] at hi; exact hi
  have h2 : j < t.cs.length := by rw [trcS_len] at hj; exact hj
  have e1 := trcS_at (s := s) (k := k) (List.getElem?_eq_getElem h1)
  have e2 := trcS_at (s := s) (k := k) (List.getElem?_eq_getElem h2)
  rw [List.getElem?_eq_getElem hi] at e1
  rw [List.getElem?_eq_getElem hj] at e2
  rw [Option.some.inj e1, Option.some.inj e2]
  show ((i + 1 : Nat) : Int) < ((j + 1 : Nat) : Int)
  omega
theorem trcS_lev (s : Sto) (k : Nat) (t : Tre) (h8 : t.cs.length ≤ 8) : ∀ (n i : Nat), i < n → i < t.cs.length → ∃ e, (((i + 1 : Nat) : Int)) ∈ lev (trcS s k t) e
  | 0, i, h, _ => by omega
  | n + 1, i, h, hi => by
    have hc := List.getElem?_eq_getElem hi
    have hx := trcS_at (s := s) (k := k) hc
    have hxm := List.mem_of_getElem? hx
    have hpa : (spnS s k t i t.cs[i]).pa = (paN t.cs[i] i : Nat) := rfl
    have hid : (spnS s k t i t.cs[i]).id = ((i + 1 : Nat) : Int) := rfl
    by_cases hp : t.cs[i].pa % (i + 1) < i
    · obtain ⟨e, he⟩ := trcS_lev s k t h8 n (t.cs[i].pa % (i + 1)) (by omega) (by omega)
      refine ⟨e + 1, ?_⟩
      show _ ∈ (lev (trcS s k t) e).flatMap (kidsF (trcS s k t))
      rw [List.mem_flatMap]
      refine ⟨_, he, mem_kids.2 ⟨_, hxm, hid, ?_, ?_⟩⟩
      · rw [hpa, show paN t.cs[i] i = t.cs[i].pa % (i + 1) + 1 by simp [paN, hp]]
      · rw [hpa, show paN t.cs[i] i = t.cs[i].pa % (i + 1) + 1 by simp [paN, hp]]; omega
    · refine ⟨0, ?_⟩
      show _ ∈ topsF (trcS s k t)
      refine mem_tops.2 ⟨_, hxm, hid, ?_⟩
      rw [hpa]
      by_cases h0 : 0 < i
      · right
        intro hm
        obtain ⟨y, hy, hyi⟩ := List.mem_map.1 hm
        obtain ⟨j, c, hj, rfl⟩ := trcS_mem hy
        have hjl := (List.getElem?_eq_some_iff.1 hj).1
        have e1 : (spnS s k t j c).id = ((j + 1 : Nat) : Int) := rfl
        have e2 : paN t.cs[i] i = 100 := by simp [paN, hp, h0]
        rw [e1, e2] at hyi
        omega
      · left; simp [paN, hp, h0]
theorem trsN_ids {s : Sto} (hs : s.ok) : ∀ n, n ≤ s.ts.length → (trsN s n).Pairwise fun a b => a.1 ≠ b.1
  | 0, _ => List.Pairwise.nil
  | n + 1, hn => by
    have ih := trsN_ids hs n (by omega)
    have h3 := hs.2.2.2.2.2.2
    unfold trsN
    split
    · rename_i t ht
      split
      · exact ih
      · refine ((insT_perm _ _).pairwise_iff (fun {a b} h => Ne.symm h)).2 (List.pairwise_cons.2 ⟨fun y hy => ?_, ih⟩)
        obtain ⟨k, t', h1, h2, _, rfl⟩ := trsN_mem hy
        show tidN s n ≠ tidN s k
        simp only [tidN, ht, h2]
        omega
    · exact ih
theorem flat_trF : ∀ {L : List Trc} {t : Int}, (L.Pairwise fun a b => a.1 ≠ b.1) → (∀ x ∈ L, ∀ y ∈ x.2, y.tr = (x.1 : Nat)) → ∀ x ∈ L, ((x.1 : Nat) : Int) = t → trF (L.flatMap fun x => x.2) t = x.2
  | [], t, _, _, x, hx, _ => by simp at hx
  | z :: L, t, hp, ht, x, hx, e => by
    obtain ⟨h1, h2⟩ := List.pairwise_cons.1 hp
    have happ : trF ((z :: L).flatMap fun x => x.2) t = trF z.2 t ++ trF (L.flatMap fun x => x.2) t := by simp [trF]
    rw [happ]
    have hall : ∀ y : Trc, y ∈ z :: L → ((y.1 : Nat) : Int) = t → trF y.2 t = y.2 := fun y hy e => by
      unfold trF
      rw [List.filter_eq_self]
      intro w hw
      simp [ht y hy w hw, e]
    have hno : ∀ y : Trc, y ∈ z :: L → ((y.1 : Nat) : Int) ≠ t → trF y.2 t = [] := fun y hy e => by
      unfold trF
      rw [List.filter_eq_nil_iff]
      intro w hw
      simp [ht y hy w hw, e]
    rcases List.mem_cons.1 hx with rfl | hx
    · rw [hall x (by simp) e]
      have : trF (L.flatMap fun x => x.2) t = [] := by
        unfold trF
        rw [List.filter_eq_nil_iff]
        intro w hw
        obtain ⟨y, hy, hw⟩ := List.mem_flatMap.1 hw
        have h3 := h1 y hy
        have h4 := ht y (by simp [hy]) w hw
        simp [h4]
        intro h5
        apply h3
        omega
      rw [this, List.append_nil]
    · have h3 := h1 x hx
      rw [hno z (by simp) (by omega), List.nil_append]
      exact flat_trF h2 (fun y hy => ht y (by simp [hy])) x hx e
theorem flat_trF0 {L : List Trc} {t : Int} (ht : ∀ x ∈ L, ∀ y ∈ x.2, y.tr = (x.1 : Nat)) (h : ∀ x ∈ L, ((x.1 : Nat) : Int) ≠ t) : trF (L.flatMap fun x => x.2) t = [] := by
  unfold trF
  rw [List.filter_eq_nil_iff]
  intro w hw
  obtain ⟨y, hy, hw⟩ := List.mem_flatMap.1 hw
  have := ht y hy w hw
  simp [this, h y hy]
theorem story_trs {s : Sto} : ∀ x ∈ trsS s, ∀ y ∈ x.2, y.tr = (x.1 : Nat) := fun x hx y hy => by
  obtain ⟨k, t, _, _, _, rfl⟩ := trsN_mem hx
  exact spn_tr s k t y hy
/-- The records of a trace of a story are those of one of its trees, or none. -/
theorem story_trF {s : Sto} (hs : s.ok) (t : Int) : (∃ k tr, s.ts[k]? = some tr ∧ t = (tidN s k : Nat) ∧ trF (spansS s) t = trcS s k tr) ∨ trF (spansS s) t = [] := by
  by_cases h : ∃ x ∈ trsS s, ((x.1 : Nat) : Int) = t
  · obtain ⟨x, hx, e⟩ := h
    have h1 := flat_trF (trsN_ids hs _ (Nat.le_refl _)) story_trs x hx e
    obtain ⟨k, tr, _, h2, _, rfl⟩ := trsN_mem hx
    exact .inl ⟨k, tr, h2, e.symm, h1⟩
  · exact .inr (flat_trF0 story_trs fun x hx e => h ⟨x, hx, e⟩)
theorem story_gd {s : Sto} (hs : s.ok) : Gd (spansS s) := by
  have hsrt : ∀ t, (trF (spansS s) t).Pairwise fun a b => a.id < b.id := fun t => by
    rcases story_trF hs t with ⟨k, tr, _, _, e⟩ | e <;> rw [e]
    · exact trcS_sorted s k tr
    · exact List.Pairwise.nil
  refine ⟨fun x hx => ?_, hsrt, fun t x hx => ?_, ?_⟩
  · obtain ⟨y, hy, hxy⟩ := List.mem_flatMap.1 hx
    obtain ⟨k, t, _, hk, _, rfl⟩ := trsN_mem hy
    obtain ⟨i, c, hi, rfl⟩ := trcS_mem hxy
    have hkl := (List.getElem?_eq_some_iff.1 hk).1
    have hil := (List.getElem?_eq_some_iff.1 hi).1
    have h8 := (hs.1 t (List.mem_of_getElem? hk)).2.2.2
    have h1 := tidN_lt hs k hkl
    have h2 : paN c i ≤ 100 := by
      have := Nat.mod_lt c.pa (show 0 < i + 1 by omega)
      unfold paN; split <;> (try split) <;> omega
    refine ⟨?_, ?_, ?_⟩
    · show I64 ((tidN s k : Nat) : Int); unfold I64; omega
    · show I64 ((i + 1 : Nat) : Int); unfold I64; omega
    · show I64 ((paN c i : Nat) : Int); unfold I64; omega
  · rcases story_trF hs t with ⟨k, tr, hk, _, e⟩ | e <;> rw [e] at hx ⊢
    · obtain ⟨i, c, hi, rfl⟩ := trcS_mem hx
      exact trcS_lev s k tr (hs.1 tr (List.mem_of_getElem? hk)).2.2.2 (i + 1) i (by omega) (List.getElem?_eq_some_iff.1 hi).1
    · simp at hx
  · show ((((trsS s).flatMap fun x => x.2)).map refO).Nodup
    rw [List.map_flatMap]
    refine List.pairwise_flatMap.2 ⟨fun x hx => ?_, ?_⟩
    · obtain ⟨k, t, _, _, _, rfl⟩ := trsN_mem hx
      rw [List.pairwise_map]
      exact (trcS_sorted s k t).imp fun {a b} h e => by have := congrArg Prod.snd e; simp at this; omega
    · have h1 := trsN_ids hs s.ts.length (Nat.le_refl _)
      have h2 : (trsS s).Pairwise fun a b => a ∈ trsS s ∧ b ∈ trsS s := List.pairwise_of_forall_mem_list fun a ha b hb => ⟨ha, hb⟩
      refine (h1.and h2).imp fun {a b} ⟨hab, ha, hb⟩ x hx y hy e => hab ?_
      obtain ⟨u, hu, rfl⟩ := List.mem_map.1 hx
      obtain ⟨v, hv, rfl⟩ := List.mem_map.1 hy
      have h3 := story_trs a ha u hu
      have h4 := story_trs b hb v hv
      have h5 := congrArg Prod.fst e
      simp at h5
      omega
theorem story_no5 {s : Sto} (hs : s.ok) : trF (spansS s) 5 = [] := by
  rcases story_trF hs 5 with ⟨k, tr, hk, e, _⟩ | e
  · have hkl := (List.getElem?_eq_some_iff.1 hk).1
    have h3 := hs.2.2.2.2.2.2
    simp only [tidN, hk] at e
    omega
  · exact e
theorem story_len {s : Sto} (hs : s.ok) : (spansS s).length ≤ 24 := by
  have h1 := flatN_len (trsS_sub hs) (trsS s).length
  have h2 : (trsS s).length ≤ 3 := Nat.le_trans (trsN_len s _) hs.2.2.2.2.2.2
  have h3 : spansS s = flatN (trsS s) (trsS s).length := by simp [spansS, flatN]
  rw [h3]; omega
end Go.Proofs.YtegcmciglakicaaGreat
namespace Go.Proofs.YtegcmciglakicaaGreat
open Go.RowKit Go.Exe
set_option linter.unusedVariables false
set_option linter.unusedSimpArgs false
set_option maxHeartbeats 8000000
set_option maxRecDepth 100000
theorem nodeT_none {l : List Nd} {id : Int} (h : ∀ n ∈ l, n.id ≠ id) : nodeT l id = .t [(true, ndZ), (false, [fl (.bool false)])] := by
  have hb : fndB l id = false := by
    unfold fndB
    cases e : l[fnd l id]? with
    | none => rfl
    | some n => simpa using h n (List.mem_of_getElem? e)
  unfold nodeT
  rw [hb]
  cases l[fnd l id]? <;> rfl
def Tre.okB (t : Tre) : Prop := t.slot < 256 ∧ t.start < 256 ∧ ∀ c ∈ t.cs, c.ok
def Sto.okB (s : Sto) : Prop := (∀ t ∈ s.ts, t.okB) ∧ i8 s.o1 ∧ i8 s.o2 ∧ i8 s.o3 ∧ i8 s.o4 ∧ s.wr < 256
theorem Sto.okB.ok {s : Sto} (h : s.okB) (hs : shortS s = true) : s.ok := by
  obtain ⟨h1, h2, h3, h4, h5, h6⟩ := h
  simp only [shortS, shortT, List.take_length, Bool.and_eq_true, List.all_eq_true, decide_eq_true_eq] at hs
  exact ⟨fun t ht => ⟨(h1 t ht).1, (h1 t ht).2.1, (h1 t ht).2.2, hs.1.1 t ht⟩, h2, h3, h4, h5, h6, hs.1.2⟩
theorem tracesS_mem {l : List Spn} {t : Int} (h : t ∈ tracesS l) : ∃ p ∈ l, p.tr = t := by
  have h1 : t ∈ trIds l l.length := (List.mergeSort_perm _ _).mem_iff.1 h
  have key : ∀ (m a : List Int), t ∈ m.foldl addK a → t ∈ m ∨ t ∈ a := by
    intro m
    induction m with
    | nil => intro a h; exact .inr h
    | cons x r ih =>
      intro a h
      rcases ih _ h with h | h
      · exact .inl (by simp [h])
      · unfold addK at h
        split at h
        · exact .inr h
        · rcases List.mem_append.1 h with h | h
          · exact .inr h
          · simp at h; exact .inl (by simp [h])
  rcases key _ _ h1 with h | h
  · rw [List.take_length] at h
    exact List.mem_map.1 h
  · simp at h
theorem trF_len (l : List Spn) (t : Int) : (trF l t).length ≤ l.length := List.length_filter_le _ _
attribute [local irreducible] W AX Run RunD AStep AOp AOpX AStB AStH AStG Fits PCall GCall PostG Post Stop
theorem of_c0 (c141 : SortC Tryz.prog 141 14) (c60 : SortI Tryz.prog 60) (g62 : GrowC Tryz.prog 62 3 1 8) (l : List Spn) (r : Rf) (ss : List Spn) (hss : ofS l r.1 = ss) (hs : ss.Pairwise fun a b => a.id < b.id) (hI : ∀ s ∈ ss, I64 s.id ∧ I64 s.pa) (hr : r.2 ∉ idsOf ss) :
    PCall Tryz.prog 14 [spsT l, .g ((refA r).map .im)] (.t [(true, zShp), (false, [fl (.int .i64 10)])]) := by
  have hnd := nodup_sorted hs
  have cb := newBuilder_c c141 c60 g62 l r.1 (by rw [hss]; exact hnd) (by rw [hss]; exact hI)
  rw [hss] at cb
  have cn := node_c (treeOf r.1 ss) r.2 (nodesD_sorted hs)
  rw [show (treeOf r.1 ss).nds = nodesD ss ss.length from rfl, nodeT_none (fun n hn e => hr (by
    obtain ⟨x, hx, rfl⟩ := List.mem_map.1 hn
    exact e ▸ List.mem_map_of_mem hx))] at cn
  simp only [bldT, bldA, trT, trA, List.map, List.cons_append, List.nil_append, ndZ, refA] at cn cb ⊢
  generalize treeOf r.1 ss = tt at *
  refine PCall.intro (nt := 34) (rs := [.cell 4 41, .tmp 5]) Tryz.func14 rfl ⟨by kernel_rfl, by kernel_rfl, by kernel_rfl⟩ (by simp) ?_
  rintro ⟨P, w0, ok0, may, np, pblk⟩ rfl rfl
  repeat' (first | ((show W _ _ _ _); first | refine W.seq fun K hK => ?_ | refine W.block ?_ | ((first | refine wR ?_ | refine wD ?_ | refine W.skip ?_ | refine W.exit ?_ | refine W.ret (Post.ret ?_)); simp only [go_sem, reduceCtorEq, zShp]) | refine wT ?_ | refine wF ?_ | refine wC (fun h => ?_) (fun h => ?_)) | ((show AX _ _ _ _ _); (first | refine aP ?_ | refine aF ?_ | refine aL ?_ | refine aU (hnn := by simp only [go_sem, reduceCtorEq, zShp]) ?_ | refine aM ?_ | refine aN ?_ | refine aR ?_ | refine aD ?_); simp only [go_sem, reduceCtorEq, zShp]) | refine iK ?_ | refine aI2 ?_ | (refine hK _ ?_; clear hK K) | clear hK K)
end Go.Proofs.YtegcmciglakicaaGreat
