import Derived.Test.YtaaflhmfhnfjhaaGreatM8
import Derived.Shelf.SlSortCmp.WholeK
import Derived.Shelf.SlSortCmp.NoneTotal
import Derived.Test.YtaaflhmfhnfjhaaGreatProg
import Derived.Shelf.SlLaysF0
import Derived.Shelf.SlGeneric
import Derived.Ground.SlsfProg
import Derived.Shelf.Spec.SlicesGrow
import Derived.Ground.Names8Prog
import Derived.Shelf.SortM.Plain
import Derived.Shelf.SortM.SortNone
import Derived.Ground.SlgmProg
import Derived.Test.YtaaflhmfhnfjhaaGreatM3
import Derived.Test.YtaaflhmfhnfjhaaGreatM10
import Derived.Test.YtaaflhmfhnfjhaaGreatRows
set_option maxRecDepth 100000
namespace Go.Proofs
open Go.Shelf Go.RowKit Go.Lib Go.Sort
theorem YtaaflhmfhnfjhaaGreat.sortC_of {P : Program} {ρ : Ren} (L : SlLaysF0.n6 P ρ) (k : Nat) (aE : ∀ w, (isAgg (ρ.t 24)).run P w = .ok true w) (zE : ∀ w, (Go.sizeOf (ρ.t 24)).run P w = .ok k w) (ok : Go.Exe.CallOk P (ρ.f 6)) : Go.Exe.SortC P (ρ.f 6) k :=
  ⟨ok, fun p cap fv w => AnyF.slices_SortFunc_none L p cap fv w, fun enc cf g blk cap n w hk h1 hO eg hcmp hH hblk hsz => by
    have h := AnyQ.slices_SortFunc L k aE zE enc hk h1 cf hO g #[] blk 0 cap (Array.range n) w eg (fun m os dk hd x y => hcmp m os dk (by simpa using hd) x y) hH hblk (by simpa using hsz)
    rw [Array.size_range] at h
    exact h⟩
end Go.Proofs
/-
  DERIVED: THE SHELF's CONTRACTS AT THIS DUMP, IN PLAIN WORDS (tools/lay-plain.mjs out of 'CUo.lean', which tools/lay-shelf.mjs wrote): THE SAME DECLARATIONS UNDER THE SAME NAMES: 'import', 'namespace', 'open', 'def', 'theorem' AND NOTHING ELSE: no command of the shelf's: FOR A HAND-IN. Each laying: the table of numbers ('.._ren') and one theorem, a field a fact of the dump's own or the kernel's comparison; each contract: ONE APPLICATION.
-/
namespace Go.Proofs
open Go.Shelf
def Tryz.sort53_ren : Go.Shelf.Ren := ⟨fun | 6 => 53 | 15 => 74 | 14 => 73 | 28 => 99 | 29 => 100 | 20 => 91 | 21 => 92 | 22 => 93 | 23 => 94 | 24 => 95 | 25 => 96 | 26 => 97 | 27 => 98 | 46 => 115 | 47 => 116 | 48 => 117 | 49 => 118 | 50 => 119 | 57 => 127 | n => n, fun | 22 => 29 | 24 => 36 | 25 => 125 | 3 => 3 | 39 => 117 | 0 => 0 | 53 => 171 | 55 => 173 | 4 => 4 | 46 => 165 | 45 => 164 | 50 => 112 | 5 => 5 | 9 => 9 | 66 => 186 | 70 => 190 | 76 => 199 | 77 => 200 | n => n, fun | n => n⟩
theorem Tryz.sort53 : Go.Proofs.SlLaysF0.n6 Tryz.prog Tryz.sort53_ren := {
  mixed := by kernel_rfl
  f6 := ⟨Tryz.f53.name, by decide, Tryz.func53.trans (congrArg some (by kernel_rfl))⟩
  f14 := ⟨Tryz.f73.name, by decide, Tryz.func73.trans (congrArg some (by kernel_rfl))⟩
  f15 := Tryz.func74.trans (congrArg some (by kernel_rfl))
  f20 := ⟨Tryz.f91.name, by decide, Tryz.func91.trans (congrArg some (by kernel_rfl))⟩
  f21 := ⟨Tryz.f92.name, by decide, Tryz.func92.trans (congrArg some (by kernel_rfl))⟩
  f22 := ⟨Tryz.f93.name, by decide, Tryz.func93.trans (congrArg some (by kernel_rfl))⟩
  f23 := ⟨Tryz.f94.name, by decide, Tryz.func94.trans (congrArg some (by kernel_rfl))⟩
  f24 := ⟨Tryz.f95.name, by decide, Tryz.func95.trans (congrArg some (by kernel_rfl))⟩
  f25 := ⟨Tryz.f96.name, by decide, Tryz.func96.trans (congrArg some (by kernel_rfl))⟩
  f26 := ⟨Tryz.f97.name, by decide, Tryz.func97.trans (congrArg some (by kernel_rfl))⟩
  f27 := ⟨Tryz.f98.name, by decide, Tryz.func98.trans (congrArg some (by kernel_rfl))⟩
  f28 := Tryz.func99.trans (congrArg some (by kernel_rfl))
  f29 := Tryz.func100.trans (congrArg some (by kernel_rfl))
  f46 := ⟨Tryz.f115.name, by decide, Tryz.func115.trans (congrArg some (by kernel_rfl))⟩
  f47 := Tryz.func116.trans (congrArg some (by kernel_rfl))
  f48 := Tryz.func117.trans (congrArg some (by kernel_rfl))
  f49 := ⟨Tryz.f118.name, by decide, Tryz.func118.trans (congrArg some (by kernel_rfl))⟩
  f50 := ⟨Tryz.f119.name, by decide, Tryz.func119.trans (congrArg some (by kernel_rfl))⟩
  f57 := ⟨Tryz.f127.name, by decide, Tryz.func127.trans (congrArg some (by kernel_rfl))⟩
  t0 := Tryz.underlying0
  a0 := Tryz.isAgg0
  z0 := Tryz.sizeOf0
  v0 := Tryz.zeroValue0
  t3 := Tryz.underlying3
  a3 := Tryz.isAgg3
  z3 := Tryz.sizeOf3
  v3 := Tryz.zeroValue3
  t4 := Tryz.underlying4
  a4 := Tryz.isAgg4
  z4 := Tryz.sizeOf4
  v4 := Tryz.zeroValue4
  t5 := Tryz.underlying5
  a5 := Tryz.isAgg5
  z5 := Tryz.sizeOf5
  v5 := Tryz.zeroValue5
  t9 := Tryz.underlying9
  a9 := Tryz.isAgg9
  z9 := Tryz.sizeOf9
  v9 := Tryz.zeroValue9
  t22 := Tryz.underlying29
  a22 := Tryz.isAgg29
  z22 := Tryz.sizeOf29
  v22 := Tryz.zeroValue29
  t25 := Tryz.underlying125
  a25 := Tryz.isAgg125
  z25 := Tryz.sizeOf125
  v25 := Tryz.zeroValue125
  t39 := Tryz.underlying117
  a39 := Tryz.isAgg117
  z39 := Tryz.sizeOf117
  v39 := Tryz.zeroValue117
  t45 := Tryz.underlying164
  a45 := Tryz.isAgg164
  z45 := Tryz.sizeOf164
  v45 := Tryz.zeroValue164
  t46 := Tryz.underlying165
  a46 := Tryz.isAgg165
  z46 := Tryz.sizeOf165
  v46 := Tryz.zeroValue165
  t50 := Tryz.underlying112
  a50 := Tryz.isAgg112
  z50 := Tryz.sizeOf112
  v50 := Tryz.zeroValue112
  t53 := Tryz.underlying171
  a53 := Tryz.isAgg171
  z53 := Tryz.sizeOf171
  v53 := Tryz.zeroValue171
  t55 := Tryz.underlying173
  a55 := Tryz.isAgg173
  z55 := Tryz.sizeOf173
  v55 := Tryz.zeroValue173
  t66 := Tryz.underlying186
  a66 := Tryz.isAgg186
  z66 := Tryz.sizeOf186
  v66 := Tryz.zeroValue186
  t70 := Tryz.underlying190
  a70 := Tryz.isAgg190
  z70 := Tryz.sizeOf190
  v70 := Tryz.zeroValue190
  t76 := Tryz.underlying199
  a76 := Tryz.isAgg199
  z76 := Tryz.sizeOf199
  v76 := Tryz.zeroValue199
  t77 := Tryz.underlying200
  a77 := Tryz.isAgg200
  z77 := Tryz.sizeOf200
  v77 := Tryz.zeroValue200 }
end Go.Proofs
/-
  DERIVED: THE SHELF's CONTRACTS AT THIS DUMP, IN PLAIN WORDS (tools/lay-plain.mjs out of 'CUp.lean', which tools/lay-shelf.mjs wrote): THE SAME DECLARATIONS UNDER THE SAME NAMES: 'import', 'namespace', 'open', 'def', 'theorem' AND NOTHING ELSE: no command of the shelf's: FOR A HAND-IN. Each laying: the table of numbers ('.._ren') and one theorem, a field a fact of the dump's own or the kernel's comparison; each contract: ONE APPLICATION.
-/
namespace Go.Proofs
open Go.Shelf
def Tryz.grow85_ren : Go.Shelf.Ren := ⟨fun | 4 => 85 | n => n, fun | 22 => 61 | 25 => 3 | 3 => 3 | 4 => 4 | 9 => 9 | 20 => 20 | 0 => 0 | n => n, fun | n => n⟩
theorem Tryz.grow85 : Go.Proofs.Lays8.n4 Tryz.prog Tryz.grow85_ren := {
  mixed := by kernel_rfl
  f4 := ⟨Tryz.f85.name, by decide, Tryz.func85.trans (congrArg some (by kernel_rfl))⟩
  t0 := Tryz.underlying0
  a0 := Tryz.isAgg0
  z0 := Tryz.sizeOf0
  v0 := Tryz.zeroValue0
  t3 := Tryz.underlying3
  a3 := Tryz.isAgg3
  z3 := Tryz.sizeOf3
  v3 := Tryz.zeroValue3
  t4 := Tryz.underlying4
  a4 := Tryz.isAgg4
  z4 := Tryz.sizeOf4
  v4 := Tryz.zeroValue4
  t9 := Tryz.underlying9
  a9 := Tryz.isAgg9
  z9 := Tryz.sizeOf9
  v9 := Tryz.zeroValue9
  t20 := Tryz.underlying20
  a20 := Tryz.isAgg20
  z20 := Tryz.sizeOf20
  v20 := Tryz.zeroValue20
  t22 := Tryz.underlying61
  a22 := Tryz.isAgg61
  z22 := Tryz.sizeOf61
  v22 := Tryz.zeroValue61 }
def Tryz.sort71_ren : Go.Shelf.Ren := ⟨fun | 5 => 71 | 8 => 74 | 7 => 90 | 19 => 99 | 20 => 100 | 10 => 106 | 11 => 107 | 12 => 108 | 13 => 109 | 14 => 110 | 15 => 111 | 16 => 112 | 17 => 113 | 18 => 114 | 30 => 124 | 31 => 116 | 32 => 117 | 33 => 125 | 34 => 126 | 35 => 75 | 40 => 137 | n => n, fun | 23 => 61 | 25 => 3 | 3 => 3 | 32 => 117 | 22 => 61 | 0 => 0 | 44 => 171 | 46 => 173 | 4 => 4 | 36 => 165 | 35 => 164 | 41 => 112 | 5 => 5 | 9 => 9 | 53 => 186 | 57 => 190 | 63 => 199 | 64 => 200 | n => n, fun | n => n⟩
theorem Tryz.sort71 : Go.Proofs.SlLaysM.n5 Tryz.prog Tryz.sort71_ren := {
  mixed := by kernel_rfl
  f5 := ⟨Tryz.f71.name, by decide, Tryz.func71.trans (congrArg some (by kernel_rfl))⟩
  f7 := ⟨Tryz.f90.name, by decide, Tryz.func90.trans (congrArg some (by kernel_rfl))⟩
  f8 := Tryz.func74.trans (congrArg some (by kernel_rfl))
  f10 := ⟨Tryz.f106.name, by decide, Tryz.func106.trans (congrArg some (by kernel_rfl))⟩
  f11 := ⟨Tryz.f107.name, by decide, Tryz.func107.trans (congrArg some (by kernel_rfl))⟩
  f12 := ⟨Tryz.f108.name, by decide, Tryz.func108.trans (congrArg some (by kernel_rfl))⟩
  f13 := ⟨Tryz.f109.name, by decide, Tryz.func109.trans (congrArg some (by kernel_rfl))⟩
  f14 := ⟨Tryz.f110.name, by decide, Tryz.func110.trans (congrArg some (by kernel_rfl))⟩
  f15 := ⟨Tryz.f111.name, by decide, Tryz.func111.trans (congrArg some (by kernel_rfl))⟩
  f16 := ⟨Tryz.f112.name, by decide, Tryz.func112.trans (congrArg some (by kernel_rfl))⟩
  f17 := ⟨Tryz.f113.name, by decide, Tryz.func113.trans (congrArg some (by kernel_rfl))⟩
  f18 := ⟨Tryz.f114.name, by decide, Tryz.func114.trans (congrArg some (by kernel_rfl))⟩
  f19 := Tryz.func99.trans (congrArg some (by kernel_rfl))
  f20 := Tryz.func100.trans (congrArg some (by kernel_rfl))
  f30 := ⟨Tryz.f124.name, by decide, Tryz.func124.trans (congrArg some (by kernel_rfl))⟩
  f31 := Tryz.func116.trans (congrArg some (by kernel_rfl))
  f32 := Tryz.func117.trans (congrArg some (by kernel_rfl))
  f33 := ⟨Tryz.f125.name, by decide, Tryz.func125.trans (congrArg some (by kernel_rfl))⟩
  f34 := ⟨Tryz.f126.name, by decide, Tryz.func126.trans (congrArg some (by kernel_rfl))⟩
  f35 := ⟨Tryz.f75.name, by decide, Tryz.func75.trans (congrArg some (by kernel_rfl))⟩
  f40 := ⟨Tryz.f137.name, by decide, Tryz.func137.trans (congrArg some (by kernel_rfl))⟩
  t0 := Tryz.underlying0
  a0 := Tryz.isAgg0
  z0 := Tryz.sizeOf0
  v0 := Tryz.zeroValue0
  t3 := Tryz.underlying3
  a3 := Tryz.isAgg3
  z3 := Tryz.sizeOf3
  v3 := Tryz.zeroValue3
  t4 := Tryz.underlying4
  a4 := Tryz.isAgg4
  z4 := Tryz.sizeOf4
  v4 := Tryz.zeroValue4
  t5 := Tryz.underlying5
  a5 := Tryz.isAgg5
  z5 := Tryz.sizeOf5
  v5 := Tryz.zeroValue5
  t9 := Tryz.underlying9
  a9 := Tryz.isAgg9
  z9 := Tryz.sizeOf9
  v9 := Tryz.zeroValue9
  t22 := Tryz.underlying61
  a22 := Tryz.isAgg61
  z22 := Tryz.sizeOf61
  v22 := Tryz.zeroValue61
  t23 := Tryz.underlying61
  a23 := Tryz.isAgg61
  z23 := Tryz.sizeOf61
  v23 := Tryz.zeroValue61
  t25 := Tryz.underlying3
  a25 := Tryz.isAgg3
  z25 := Tryz.sizeOf3
  v25 := Tryz.zeroValue3
  t32 := Tryz.underlying117
  a32 := Tryz.isAgg117
  z32 := Tryz.sizeOf117
  v32 := Tryz.zeroValue117
  t35 := Tryz.underlying164
  a35 := Tryz.isAgg164
  z35 := Tryz.sizeOf164
  v35 := Tryz.zeroValue164
  t36 := Tryz.underlying165
  a36 := Tryz.isAgg165
  z36 := Tryz.sizeOf165
  v36 := Tryz.zeroValue165
  t41 := Tryz.underlying112
  a41 := Tryz.isAgg112
  z41 := Tryz.sizeOf112
  v41 := Tryz.zeroValue112
  t44 := Tryz.underlying171
  a44 := Tryz.isAgg171
  z44 := Tryz.sizeOf171
  v44 := Tryz.zeroValue171
  t46 := Tryz.underlying173
  a46 := Tryz.isAgg173
  z46 := Tryz.sizeOf173
  v46 := Tryz.zeroValue173
  t53 := Tryz.underlying186
  a53 := Tryz.isAgg186
  z53 := Tryz.sizeOf186
  v53 := Tryz.zeroValue186
  t57 := Tryz.underlying190
  a57 := Tryz.isAgg190
  z57 := Tryz.sizeOf190
  v57 := Tryz.zeroValue190
  t63 := Tryz.underlying199
  a63 := Tryz.isAgg199
  z63 := Tryz.sizeOf199
  v63 := Tryz.zeroValue199
  t64 := Tryz.underlying200
  a64 := Tryz.isAgg200
  z64 := Tryz.sizeOf200
  v64 := Tryz.zeroValue200 }
end Go.Proofs
namespace Go.Proofs.YtaaflhmfhnfjhaaGreat
open Go.RowKit Go.Exe
theorem aggOf {P : Program} {t : TypeId} {n : Nat} (ht : TI P t = some (true, n)) (w : World) : (isAgg t).run P w = .ok true w := by
  obtain ⟨i, d, hi, hd, hg, hn⟩ := TI_spec ht
  unfold isAgg
  simp only [Sem.run_bind, run_underlying hd, Result.andThen_ok]
  rw [← hg]
  cases d <;> rfl
theorem sizeOf_ {P : Program} {t : TypeId} {g : Bool} {n : Nat} (ht : TI P t = some (g, n)) (w : World) : (Go.sizeOf t).run P w = .ok n w := by
  obtain ⟨i, d, h1, h2, h3, h4⟩ := TI_spec ht
  simp [sizeOf, typeInfo, h1, h4]
theorem sort53_c : SortC Tryz.prog 53 14 := sortC_of Tryz.sort53 14 (aggOf tI36) (sizeOf_ tI36) ⟨Tryz.f53, Tryz.func53, by kernel_rfl, by kernel_rfl⟩
theorem sort71_c : SortI Tryz.prog 71 := ⟨⟨Tryz.f71, Tryz.func71, by kernel_rfl, by kernel_rfl⟩, fun p cap w => AnyM.slices_Sort_int_none Tryz.sort71 p cap w, fun blk cap zs w hH hb hn => AnyM.slices_Sort_int Tryz.sort71 blk 0 cap zs w hH hb hn⟩
theorem grow85_c : GrowC Tryz.prog 85 3 1 8 := by
  refine ⟨⟨Tryz.f85, Tryz.func85, by kernel_rfl, by kernel_rfl⟩, fun w => Any8.slices_Grow_room Tryz.grow85 none 0 0 0 w (Nat.le_refl _) (by decide) (by decide) (Nat.le_refl _), fun n w h0 h1 h2 => ?_⟩
  obtain ⟨i0, hi0, hsz, hbs⟩ := EInfo_spec tE3
  obtain ⟨i1, z, hi1, hz, hzs, _⟩ := ZV_spec tZ3
  obtain rfl : i0 = i1 := by rw [hi0] at hi1; exact Option.some.inj hi1
  have hzz : z.cells.size = 1 := by rw [← Array.length_toList, hzs]; rfl
  have hb1 : n * i0.bytes ≤ 140737488355328 := by rw [hbs]; exact h1
  refine (Any8.slices_Grow_grow Tryz.grow85 i0 z hi0 hz (by rw [hsz]; exact Nat.zero_lt_one) none 0 0 n [] w (Nat.le_refl _) (by omega) (by rw [Nat.zero_add]; exact hb1) (by omega) (by simp) (fun _ => rfl) (fun a ha => by cases ha)).mono fun ed w' ⟨e1, e2⟩ => ?_
  obtain ⟨G, hG⟩ : ∃ G, G = Go.grownCap w (0 + n) 0 (Tryz.grow85_ren.t 25) := ⟨_, rfl⟩
  have hge := Go.grownCap_ge w (0 + n) 0 (Tryz.grow85_ren.t 25)
  have hle := Go.grownCap_le_maxLen w (0 + n) 0 (Tryz.grow85_ren.t 25) (by unfold maxLen; omega)
  refine ⟨_, _, e1, hle, ?_, e2⟩
  have hzc : ∀ m, (Builtin.zeroCells z.cells m).size = m := fun m => by simp [Builtin.zeroCells, hzz]
  simp only [Array.size_append, hzc, Nat.zero_add] at hge ⊢
  simp only [List.size_toArray, List.length_nil]
  omega
end Go.Proofs.YtaaflhmfhnfjhaaGreat
namespace Go.Proofs.YtaaflhmfhnfjhaaGreat
open Go.ChangeShapes Go.WideShapes Go.ChangeAt Go.RowKit Go.Exe
theorem Tryz.own : ownKnob Tryz.prog.godebug = none := by kernel_rfl
theorem Tryz.laidOut : laidOutB Tryz.prog = true := by kernel_rfl
/-! ### stories that came in -/
theorem i8_in {f : Nat} {xs : List AV} (h : Typ Tryz.prog (f + 1) 23 xs) : ∃ n : Int, i8 n ∧ xs = [.flat (.int .i8 n)] := by
  obtain ⟨n, rfl, h1, h2⟩ := Typ.int tU23 h
  simp [IntKind.min, IntKind.max, IntKind.signed, IntKind.bits] at h1 h2
  exact ⟨n, ⟨h1, h2⟩, rfl⟩
theorem cal_in {f : Nat} {xs : List AV} (h : Typ Tryz.prog (f + 2) 151 xs) : ∃ c : Cal, c.ok ∧ xs = calA c := by
  obtain ⟨parts, rfl, hp⟩ := Typ.st (ts := [5, 5, 5, 5, 5, 5, 5, 5, 5, 5, 4]) (by kernel_rfl) h
  match parts, hp with
  | [a0, a1, a2, a3, a4, a5, a6, a7, a8, a9, a10], hp =>
    simp only [Al.cons_iff] at hp
    obtain ⟨h0, h1, h2, h3, h4, h5, h6, h7, h8, h9, h10, _⟩ := hp
    obtain ⟨n0, rfl, b0⟩ := Typ.u8 tU5 h0
    obtain ⟨n1, rfl, b1⟩ := Typ.u8 tU5 h1
    obtain ⟨n2, rfl, b2⟩ := Typ.u8 tU5 h2
    obtain ⟨n3, rfl, b3⟩ := Typ.u8 tU5 h3
    obtain ⟨n4, rfl, b4⟩ := Typ.u8 tU5 h4
    obtain ⟨n5, rfl, b5⟩ := Typ.u8 tU5 h5
    obtain ⟨n6, rfl, b6⟩ := Typ.u8 tU5 h6
    obtain ⟨n7, rfl, b7⟩ := Typ.u8 tU5 h7
    obtain ⟨n8, rfl, b8⟩ := Typ.u8 tU5 h8
    obtain ⟨n9, rfl, b9⟩ := Typ.u8 tU5 h9
    obtain ⟨b, rfl⟩ := Typ.bool tU4 h10
    exact ⟨⟨n0, n1, n2, n3, n4, n5, n6, n7, n8, n9, b⟩, ⟨b0, b1, b2, b3, b4, b5, b6, b7, b8, b9⟩, rfl⟩
theorem tre_in {f : Nat} {xs : List AV} (h : Typ Tryz.prog (f + 4) 88 xs) : ∃ t : Tre, t.okB ∧ xs = treA t := by
  obtain ⟨parts, rfl, hp⟩ := Typ.st (ts := [5, 5, 86]) (by kernel_rfl) h
  match parts, hp with
  | [a0, a1, a2], hp =>
    simp only [Al.cons_iff] at hp
    obtain ⟨h0, h1, h2, _⟩ := hp
    obtain ⟨n0, rfl, b0⟩ := Typ.u8 tU5 h0
    obtain ⟨n1, rfl, b1⟩ := Typ.u8 tU5 h1
    obtain ⟨rows, rfl, hr⟩ := Typ.sl tL86 h2
    obtain ⟨cs, hcs, rfl⟩ := rows_of (ok := Cal.ok) (enc := calA) fun r hr' => cal_in (hr r hr')
    exact ⟨⟨n0, n1, cs⟩, ⟨b0, b1, hcs⟩, rfl⟩
theorem sto_in {f : Nat} {xs : List AV} (h : Typ Tryz.prog (f + 6) 27 xs) : ∃ s : Sto, s.okB ∧ xs = stoA s := by
  obtain ⟨parts, rfl, hp⟩ := Typ.st (ts := [22, 24, 25, 5]) (by kernel_rfl) h
  match parts, hp with
  | [a0, a1, a2, a3], hp =>
    simp only [Al.cons_iff] at hp
    obtain ⟨h0, h1, h2, h3, _⟩ := hp
    obtain ⟨rows, rfl, hr⟩ := Typ.sl tL22 h0
    obtain ⟨ts, hts, rfl⟩ := rows_of (ok := Tre.okB) (enc := treA) fun r hr' => tre_in (hr r hr')
    obtain ⟨offs, rfl, hol, ho⟩ := Typ.arr (n := 4) (e := 23) (by kernel_rfl) h1
    obtain ⟨sy, rfl, hs⟩ := Typ.sl tL25 h2
    obtain ⟨w, rfl, bw⟩ := Typ.u8 tU5 h3
    match offs, hol with
    | [q1, q2, q3, q4], _ =>
      obtain ⟨o1, c1, rfl⟩ := i8_in (ho q1 (by simp))
      obtain ⟨o2, c2, rfl⟩ := i8_in (ho q2 (by simp))
      obtain ⟨o3, c3, rfl⟩ := i8_in (ho q3 (by simp))
      obtain ⟨o4, c4, rfl⟩ := i8_in (ho q4 (by simp))
      exact ⟨⟨ts, o1, o2, o3, o4, sy, w⟩, ⟨hts, c1, c2, c3, c4, bw⟩, rfl⟩
end Go.Proofs.YtaaflhmfhnfjhaaGreat
