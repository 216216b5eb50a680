import Derived.Test.YtigenjeealkdlaaGreatM7
import Derived.Shelf.SlSortCmp.WholeK
import Derived.Shelf.SlSortCmp.NoneTotal
import Derived.Test.YtigenjeealkdlaaGreatProg
import Derived.Shelf.SlLaysF0
import Derived.Shelf.SlGeneric
import Derived.Ground.SlsfProg
import Derived.Shelf.Spec.SlicesGrow
import Derived.Ground.Names8Prog
import Derived.Shelf.SortM.Plain
import Derived.Shelf.SortM.SortNone
import Derived.Ground.SlgmProg
import Derived.Test.YtigenjeealkdlaaGreatM3
import Derived.Test.YtigenjeealkdlaaGreatRows
set_option linter.unusedVariables false
set_option linter.unusedSimpArgs false
set_option maxHeartbeats 8000000
set_option maxRecDepth 100000
namespace Go.Proofs.YtigenjeealkdlaaGreat
open Go.RowKit Go.Exe
/-! ### ref05.Sorted -/
theorem lt_uniI {l m : List Int} (h1 : l.Pairwise (· < ·)) (h2 : m.Pairwise (· < ·)) (h : ∀ y, y ∈ l ↔ y ∈ m) : l = m :=
  List.Perm.eq_of_pairwise (fun a b _ _ h1 h2 => by omega) h1 h2 ((List.perm_ext_iff_of_nodup (h1.imp fun {a b} h => by omega) (h2.imp fun {a b} h => by omega)).2 h)
attribute [local irreducible] W AX Run RunD AStep AOp AOpX AStB AStH AStG Fits PCall GCall PostG Post Stop
end Go.Proofs.YtigenjeealkdlaaGreat
namespace Go.Proofs
open Go.Shelf Go.RowKit Go.Lib Go.Sort
theorem YtigenjeealkdlaaGreat.sortC_of {P : Program} {ρ : Ren} (L : SlLaysF0.n6 P ρ) (k : Nat) (aE : ∀ w, (isAgg (ρ.t 24)).run P w = .ok true w) (zE : ∀ w, (Go.sizeOf (ρ.t 24)).run P w = .ok k w) (ok : Go.Exe.CallOk P (ρ.f 6)) : Go.Exe.SortC P (ρ.f 6) k :=
  ⟨ok, fun p cap fv w => AnyF.slices_SortFunc_none L p cap fv w, fun enc cf g blk cap n w hk h1 hO eg hcmp hH hblk hsz => by
    have h := AnyQ.slices_SortFunc L k aE zE enc hk h1 cf hO g #[] blk 0 cap (Array.range n) w eg (fun m os dk hd x y => hcmp m os dk (by simpa using hd) x y) hH hblk (by simpa using hsz)
    rw [Array.size_range] at h
    exact h⟩
end Go.Proofs
/-
  DERIVED: THE SHELF's CONTRACTS AT THIS DUMP, IN PLAIN WORDS (tools/lay-plain.mjs out of 'AUo.lean', which tools/lay-shelf.mjs wrote): THE SAME DECLARATIONS UNDER THE SAME NAMES: 'import', 'namespace', 'open', 'def', 'theorem' AND NOTHING ELSE: no command of the shelf's: FOR A HAND-IN. Each laying: the table of numbers ('.._ren') and one theorem, a field a fact of the dump's own or the kernel's comparison; each contract: ONE APPLICATION.
-/
namespace Go.Proofs
open Go.Shelf
def Tryz.sort144_ren : Go.Shelf.Ren := ⟨fun | 6 => 144 | 15 => 113 | 14 => 158 | 28 => 139 | 29 => 140 | 20 => 162 | 21 => 163 | 22 => 164 | 23 => 165 | 24 => 166 | 25 => 167 | 26 => 168 | 27 => 169 | 46 => 170 | 47 => 153 | 48 => 154 | 49 => 171 | 50 => 172 | 57 => 173 | n => n, fun | 22 => 30 | 24 => 88 | 25 => 158 | 3 => 3 | 39 => 160 | 0 => 0 | 53 => 194 | 55 => 161 | 4 => 4 | 46 => 188 | 45 => 187 | 50 => 49 | 5 => 5 | 9 => 9 | 66 => 206 | 70 => 210 | 76 => 217 | 77 => 218 | n => n, fun | n => n⟩
theorem Tryz.sort144 : Go.Proofs.SlLaysF0.n6 Tryz.prog Tryz.sort144_ren := {
  mixed := by kernel_rfl
  f6 := ⟨Tryz.f144.name, by decide, Tryz.func144.trans (congrArg some (by kernel_rfl))⟩
  f14 := ⟨Tryz.f158.name, by decide, Tryz.func158.trans (congrArg some (by kernel_rfl))⟩
  f15 := Tryz.func113.trans (congrArg some (by kernel_rfl))
  f20 := ⟨Tryz.f162.name, by decide, Tryz.func162.trans (congrArg some (by kernel_rfl))⟩
  f21 := ⟨Tryz.f163.name, by decide, Tryz.func163.trans (congrArg some (by kernel_rfl))⟩
  f22 := ⟨Tryz.f164.name, by decide, Tryz.func164.trans (congrArg some (by kernel_rfl))⟩
  f23 := ⟨Tryz.f165.name, by decide, Tryz.func165.trans (congrArg some (by kernel_rfl))⟩
  f24 := ⟨Tryz.f166.name, by decide, Tryz.func166.trans (congrArg some (by kernel_rfl))⟩
  f25 := ⟨Tryz.f167.name, by decide, Tryz.func167.trans (congrArg some (by kernel_rfl))⟩
  f26 := ⟨Tryz.f168.name, by decide, Tryz.func168.trans (congrArg some (by kernel_rfl))⟩
  f27 := ⟨Tryz.f169.name, by decide, Tryz.func169.trans (congrArg some (by kernel_rfl))⟩
  f28 := Tryz.func139.trans (congrArg some (by kernel_rfl))
  f29 := Tryz.func140.trans (congrArg some (by kernel_rfl))
  f46 := ⟨Tryz.f170.name, by decide, Tryz.func170.trans (congrArg some (by kernel_rfl))⟩
  f47 := Tryz.func153.trans (congrArg some (by kernel_rfl))
  f48 := Tryz.func154.trans (congrArg some (by kernel_rfl))
  f49 := ⟨Tryz.f171.name, by decide, Tryz.func171.trans (congrArg some (by kernel_rfl))⟩
  f50 := ⟨Tryz.f172.name, by decide, Tryz.func172.trans (congrArg some (by kernel_rfl))⟩
  f57 := ⟨Tryz.f173.name, by decide, Tryz.func173.trans (congrArg some (by kernel_rfl))⟩
  t0 := Tryz.underlying0
  a0 := Tryz.isAgg0
  z0 := Tryz.sizeOf0
  v0 := Tryz.zeroValue0
  t3 := Tryz.underlying3
  a3 := Tryz.isAgg3
  z3 := Tryz.sizeOf3
  v3 := Tryz.zeroValue3
  t4 := Tryz.underlying4
  a4 := Tryz.isAgg4
  z4 := Tryz.sizeOf4
  v4 := Tryz.zeroValue4
  t5 := Tryz.underlying5
  a5 := Tryz.isAgg5
  z5 := Tryz.sizeOf5
  v5 := Tryz.zeroValue5
  t9 := Tryz.underlying9
  a9 := Tryz.isAgg9
  z9 := Tryz.sizeOf9
  v9 := Tryz.zeroValue9
  t22 := Tryz.underlying30
  a22 := Tryz.isAgg30
  z22 := Tryz.sizeOf30
  v22 := Tryz.zeroValue30
  t25 := Tryz.underlying158
  a25 := Tryz.isAgg158
  z25 := Tryz.sizeOf158
  v25 := Tryz.zeroValue158
  t39 := Tryz.underlying160
  a39 := Tryz.isAgg160
  z39 := Tryz.sizeOf160
  v39 := Tryz.zeroValue160
  t45 := Tryz.underlying187
  a45 := Tryz.isAgg187
  z45 := Tryz.sizeOf187
  v45 := Tryz.zeroValue187
  t46 := Tryz.underlying188
  a46 := Tryz.isAgg188
  z46 := Tryz.sizeOf188
  v46 := Tryz.zeroValue188
  t50 := Tryz.underlying49
  a50 := Tryz.isAgg49
  z50 := Tryz.sizeOf49
  v50 := Tryz.zeroValue49
  t53 := Tryz.underlying194
  a53 := Tryz.isAgg194
  z53 := Tryz.sizeOf194
  v53 := Tryz.zeroValue194
  t55 := Tryz.underlying161
  a55 := Tryz.isAgg161
  z55 := Tryz.sizeOf161
  v55 := Tryz.zeroValue161
  t66 := Tryz.underlying206
  a66 := Tryz.isAgg206
  z66 := Tryz.sizeOf206
  v66 := Tryz.zeroValue206
  t70 := Tryz.underlying210
  a70 := Tryz.isAgg210
  z70 := Tryz.sizeOf210
  v70 := Tryz.zeroValue210
  t76 := Tryz.underlying217
  a76 := Tryz.isAgg217
  z76 := Tryz.sizeOf217
  v76 := Tryz.zeroValue217
  t77 := Tryz.underlying218
  a77 := Tryz.isAgg218
  z77 := Tryz.sizeOf218
  v77 := Tryz.zeroValue218 }
end Go.Proofs
/-
  DERIVED: THE SHELF's CONTRACTS AT THIS DUMP, IN PLAIN WORDS (tools/lay-plain.mjs out of 'AUp.lean', which tools/lay-shelf.mjs wrote): THE SAME DECLARATIONS UNDER THE SAME NAMES: 'import', 'namespace', 'open', 'def', 'theorem' AND NOTHING ELSE: no command of the shelf's: FOR A HAND-IN. Each laying: the table of numbers ('.._ren') and one theorem, a field a fact of the dump's own or the kernel's comparison; each contract: ONE APPLICATION.
-/
namespace Go.Proofs
open Go.Shelf
def Tryz.grow84_ren : Go.Shelf.Ren := ⟨fun | 4 => 84 | n => n, fun | 22 => 26 | 25 => 3 | 3 => 3 | 4 => 4 | 9 => 9 | 20 => 20 | 0 => 0 | n => n, fun | n => n⟩
theorem Tryz.grow84 : Go.Proofs.Lays8.n4 Tryz.prog Tryz.grow84_ren := {
  mixed := by kernel_rfl
  f4 := ⟨Tryz.f84.name, by decide, Tryz.func84.trans (congrArg some (by kernel_rfl))⟩
  t0 := Tryz.underlying0
  a0 := Tryz.isAgg0
  z0 := Tryz.sizeOf0
  v0 := Tryz.zeroValue0
  t3 := Tryz.underlying3
  a3 := Tryz.isAgg3
  z3 := Tryz.sizeOf3
  v3 := Tryz.zeroValue3
  t4 := Tryz.underlying4
  a4 := Tryz.isAgg4
  z4 := Tryz.sizeOf4
  v4 := Tryz.zeroValue4
  t9 := Tryz.underlying9
  a9 := Tryz.isAgg9
  z9 := Tryz.sizeOf9
  v9 := Tryz.zeroValue9
  t20 := Tryz.underlying20
  a20 := Tryz.isAgg20
  z20 := Tryz.sizeOf20
  v20 := Tryz.zeroValue20
  t22 := Tryz.underlying26
  a22 := Tryz.isAgg26
  z22 := Tryz.sizeOf26
  v22 := Tryz.zeroValue26 }
def Tryz.grow122_ren : Go.Shelf.Ren := ⟨fun | 4 => 122 | n => n, fun | 22 => 30 | 25 => 88 | 3 => 3 | 4 => 4 | 9 => 9 | 20 => 20 | 0 => 0 | n => n, fun | n => n⟩
theorem Tryz.grow122 : Go.Proofs.Lays8.n4 Tryz.prog Tryz.grow122_ren := {
  mixed := by kernel_rfl
  f4 := ⟨Tryz.f122.name, by decide, Tryz.func122.trans (congrArg some (by kernel_rfl))⟩
  t0 := Tryz.underlying0
  a0 := Tryz.isAgg0
  z0 := Tryz.sizeOf0
  v0 := Tryz.zeroValue0
  t3 := Tryz.underlying3
  a3 := Tryz.isAgg3
  z3 := Tryz.sizeOf3
  v3 := Tryz.zeroValue3
  t4 := Tryz.underlying4
  a4 := Tryz.isAgg4
  z4 := Tryz.sizeOf4
  v4 := Tryz.zeroValue4
  t9 := Tryz.underlying9
  a9 := Tryz.isAgg9
  z9 := Tryz.sizeOf9
  v9 := Tryz.zeroValue9
  t20 := Tryz.underlying20
  a20 := Tryz.isAgg20
  z20 := Tryz.sizeOf20
  v20 := Tryz.zeroValue20
  t22 := Tryz.underlying30
  a22 := Tryz.isAgg30
  z22 := Tryz.sizeOf30
  v22 := Tryz.zeroValue30 }
def Tryz.sort85_ren : Go.Shelf.Ren := ⟨fun | 5 => 85 | 8 => 113 | 7 => 112 | 19 => 139 | 20 => 140 | 10 => 130 | 11 => 131 | 12 => 132 | 13 => 133 | 14 => 134 | 15 => 135 | 16 => 136 | 17 => 137 | 18 => 138 | 30 => 152 | 31 => 153 | 32 => 154 | 33 => 155 | 34 => 156 | 35 => 114 | 40 => 161 | n => n, fun | 23 => 26 | 25 => 3 | 3 => 3 | 32 => 160 | 22 => 26 | 0 => 0 | 44 => 194 | 46 => 161 | 4 => 4 | 36 => 188 | 35 => 187 | 41 => 49 | 5 => 5 | 9 => 9 | 53 => 206 | 57 => 210 | 63 => 217 | 64 => 218 | n => n, fun | n => n⟩
theorem Tryz.sort85 : Go.Proofs.SlLaysM.n5 Tryz.prog Tryz.sort85_ren := {
  mixed := by kernel_rfl
  f5 := ⟨Tryz.f85.name, by decide, Tryz.func85.trans (congrArg some (by kernel_rfl))⟩
  f7 := ⟨Tryz.f112.name, by decide, Tryz.func112.trans (congrArg some (by kernel_rfl))⟩
  f8 := Tryz.func113.trans (congrArg some (by kernel_rfl))
  f10 := ⟨Tryz.f130.name, by decide, Tryz.func130.trans (congrArg some (by kernel_rfl))⟩
  f11 := ⟨Tryz.f131.name, by decide, Tryz.func131.trans (congrArg some (by kernel_rfl))⟩
  f12 := ⟨Tryz.f132.name, by decide, Tryz.func132.trans (congrArg some (by kernel_rfl))⟩
  f13 := ⟨Tryz.f133.name, by decide, Tryz.func133.trans (congrArg some (by kernel_rfl))⟩
  f14 := ⟨Tryz.f134.name, by decide, Tryz.func134.trans (congrArg some (by kernel_rfl))⟩
  f15 := ⟨Tryz.f135.name, by decide, Tryz.func135.trans (congrArg some (by kernel_rfl))⟩
  f16 := ⟨Tryz.f136.name, by decide, Tryz.func136.trans (congrArg some (by kernel_rfl))⟩
  f17 := ⟨Tryz.f137.name, by decide, Tryz.func137.trans (congrArg some (by kernel_rfl))⟩
  f18 := ⟨Tryz.f138.name, by decide, Tryz.func138.trans (congrArg some (by kernel_rfl))⟩
  f19 := Tryz.func139.trans (congrArg some (by kernel_rfl))
  f20 := Tryz.func140.trans (congrArg some (by kernel_rfl))
  f30 := ⟨Tryz.f152.name, by decide, Tryz.func152.trans (congrArg some (by kernel_rfl))⟩
  f31 := Tryz.func153.trans (congrArg some (by kernel_rfl))
  f32 := Tryz.func154.trans (congrArg some (by kernel_rfl))
  f33 := ⟨Tryz.f155.name, by decide, Tryz.func155.trans (congrArg some (by kernel_rfl))⟩
  f34 := ⟨Tryz.f156.name, by decide, Tryz.func156.trans (congrArg some (by kernel_rfl))⟩
  f35 := ⟨Tryz.f114.name, by decide, Tryz.func114.trans (congrArg some (by kernel_rfl))⟩
  f40 := ⟨Tryz.f161.name, by decide, Tryz.func161.trans (congrArg some (by kernel_rfl))⟩
  t0 := Tryz.underlying0
  a0 := Tryz.isAgg0
  z0 := Tryz.sizeOf0
  v0 := Tryz.zeroValue0
  t3 := Tryz.underlying3
  a3 := Tryz.isAgg3
  z3 := Tryz.sizeOf3
  v3 := Tryz.zeroValue3
  t4 := Tryz.underlying4
  a4 := Tryz.isAgg4
  z4 := Tryz.sizeOf4
  v4 := Tryz.zeroValue4
  t5 := Tryz.underlying5
  a5 := Tryz.isAgg5
  z5 := Tryz.sizeOf5
  v5 := Tryz.zeroValue5
  t9 := Tryz.underlying9
  a9 := Tryz.isAgg9
  z9 := Tryz.sizeOf9
  v9 := Tryz.zeroValue9
  t22 := Tryz.underlying26
  a22 := Tryz.isAgg26
  z22 := Tryz.sizeOf26
  v22 := Tryz.zeroValue26
  t23 := Tryz.underlying26
  a23 := Tryz.isAgg26
  z23 := Tryz.sizeOf26
  v23 := Tryz.zeroValue26
  t25 := Tryz.underlying3
  a25 := Tryz.isAgg3
  z25 := Tryz.sizeOf3
  v25 := Tryz.zeroValue3
  t32 := Tryz.underlying160
  a32 := Tryz.isAgg160
  z32 := Tryz.sizeOf160
  v32 := Tryz.zeroValue160
  t35 := Tryz.underlying187
  a35 := Tryz.isAgg187
  z35 := Tryz.sizeOf187
  v35 := Tryz.zeroValue187
  t36 := Tryz.underlying188
  a36 := Tryz.isAgg188
  z36 := Tryz.sizeOf188
  v36 := Tryz.zeroValue188
  t41 := Tryz.underlying49
  a41 := Tryz.isAgg49
  z41 := Tryz.sizeOf49
  v41 := Tryz.zeroValue49
  t44 := Tryz.underlying194
  a44 := Tryz.isAgg194
  z44 := Tryz.sizeOf194
  v44 := Tryz.zeroValue194
  t46 := Tryz.underlying161
  a46 := Tryz.isAgg161
  z46 := Tryz.sizeOf161
  v46 := Tryz.zeroValue161
  t53 := Tryz.underlying206
  a53 := Tryz.isAgg206
  z53 := Tryz.sizeOf206
  v53 := Tryz.zeroValue206
  t57 := Tryz.underlying210
  a57 := Tryz.isAgg210
  z57 := Tryz.sizeOf210
  v57 := Tryz.zeroValue210
  t63 := Tryz.underlying217
  a63 := Tryz.isAgg217
  z63 := Tryz.sizeOf217
  v63 := Tryz.zeroValue217
  t64 := Tryz.underlying218
  a64 := Tryz.isAgg218
  z64 := Tryz.sizeOf218
  v64 := Tryz.zeroValue218 }
end Go.Proofs
namespace Go.Proofs.YtigenjeealkdlaaGreat
open Go.RowKit Go.Exe
theorem aggOf {P : Program} {t : TypeId} {n : Nat} (ht : TI P t = some (true, n)) (w : World) : (isAgg t).run P w = .ok true w := by
  obtain ⟨i, d, hi, hd, hg, hn⟩ := TI_spec ht
  unfold isAgg
  simp only [Sem.run_bind, run_underlying hd, Result.andThen_ok]
  rw [← hg]
  cases d <;> rfl
theorem sizeOf_ {P : Program} {t : TypeId} {g : Bool} {n : Nat} (ht : TI P t = some (g, n)) (w : World) : (Go.sizeOf t).run P w = .ok n w := by
  obtain ⟨i, d, h1, h2, h3, h4⟩ := TI_spec ht
  simp [sizeOf, typeInfo, h1, h4]
theorem sort144_c : SortC Tryz.prog 144 14 := sortC_of Tryz.sort144 14 (aggOf tI88) (sizeOf_ tI88) ⟨Tryz.f144, Tryz.func144, by kernel_rfl, by kernel_rfl⟩
theorem sort85_c : SortI Tryz.prog 85 := ⟨⟨Tryz.f85, Tryz.func85, by kernel_rfl, by kernel_rfl⟩, fun p cap w => AnyM.slices_Sort_int_none Tryz.sort85 p cap w, fun blk cap zs w hH hb hn => AnyM.slices_Sort_int Tryz.sort85 blk 0 cap zs w hH hb hn⟩
theorem grow84_c : GrowC Tryz.prog 84 3 1 8 := by
  refine ⟨⟨Tryz.f84, Tryz.func84, by kernel_rfl, by kernel_rfl⟩, fun w => Any8.slices_Grow_room Tryz.grow84 none 0 0 0 w (Nat.le_refl _) (by decide) (by decide) (Nat.le_refl _), fun n w h0 h1 h2 => ?_⟩
  obtain ⟨i0, hi0, hsz, hbs⟩ := EInfo_spec tE3
  obtain ⟨i1, z, hi1, hz, hzs, _⟩ := ZV_spec tZ3
  obtain rfl : i0 = i1 := by rw [hi0] at hi1; exact Option.some.inj hi1
  have hzz : z.cells.size = 1 := by rw [← Array.length_toList, hzs]; rfl
  have hb1 : n * i0.bytes ≤ 140737488355328 := by rw [hbs]; exact h1
  refine (Any8.slices_Grow_grow Tryz.grow84 i0 z hi0 hz (by rw [hsz]; exact Nat.zero_lt_one) none 0 0 n [] w (Nat.le_refl _) (by omega) (by rw [Nat.zero_add]; exact hb1) (by omega) (by simp) (fun _ => rfl) (fun a ha => by cases ha)).mono fun ed w' ⟨e1, e2⟩ => ?_
  have hge := Go.grownCap_ge w (0 + n) 0 (Tryz.grow84_ren.t 25)
  have hle := Go.grownCap_le_maxLen w (0 + n) 0 (Tryz.grow84_ren.t 25) (by unfold maxLen; omega)
  refine ⟨_, _, e1, hle, ?_, e2⟩
  have hzc : ∀ m, (Builtin.zeroCells z.cells m).size = m := fun m => by simp [Builtin.zeroCells, hzz]
  simp only [Array.size_append, hzc, Nat.zero_add] at hge ⊢
  simp only [List.size_toArray, List.length_nil]
  omega
theorem grow122_c : GrowC Tryz.prog 122 88 14 168 := by
  refine ⟨⟨Tryz.f122, Tryz.func122, by kernel_rfl, by kernel_rfl⟩, fun w => Any8.slices_Grow_room Tryz.grow122 none 0 0 0 w (Nat.le_refl _) (by decide) (by decide) (Nat.le_refl _), fun n w h0 h1 h2 => ?_⟩
  obtain ⟨i0, hi0, hsz, hbs⟩ := EInfo_spec tE88
  obtain ⟨i1, z, hi1, hz, hzs, _⟩ := ZV_spec tZ88
  obtain rfl : i0 = i1 := by rw [hi0] at hi1; exact Option.some.inj hi1
  have hzz : z.cells.size = 14 := by rw [← Array.length_toList, hzs]; rfl
  have hb1 : n * i0.bytes ≤ 140737488355328 := by rw [hbs]; exact h1
  refine (Any8.slices_Grow_grow Tryz.grow122 i0 z hi0 hz (by rw [hsz]; exact Nat.zero_lt_succ _) none 0 0 n [] w (Nat.le_refl _) (by omega) (by rw [Nat.zero_add]; exact hb1) (by omega) (by simp) (fun _ => rfl) (fun a ha => by cases ha)).mono fun ed w' ⟨e1, e2⟩ => ?_
  have hge := Go.grownCap_ge w (0 + n) 0 (Tryz.grow122_ren.t 25)
  have hle := Go.grownCap_le_maxLen w (0 + n) 0 (Tryz.grow122_ren.t 25) (by unfold maxLen; omega)
  refine ⟨_, _, e1, hle, ?_, e2⟩
  have hzc : ∀ m, (Builtin.zeroCells z.cells m).size = m * 14 := fun m => by simp [Builtin.zeroCells, hzz]
  simp only [Array.size_append, hzc, Nat.zero_add] at hge ⊢
  simp only [List.size_toArray, List.length_nil]
  omega
end Go.Proofs.YtigenjeealkdlaaGreat
namespace Go.Proofs.YtigenjeealkdlaaGreat
open Go.RowKit Go.Exe
/-! ### what is below a span, and the parts of a tree -/
inductive Desc (ss : List Spn) (x : Int) : Int → Prop
  | refl : Desc ss x x
  | step {y z : Int} : Desc ss x y → z ∈ kidsF ss y → Desc ss x z
theorem kids_ids {ss : List Spn} {p x : Int} (h : x ∈ kidsF ss p) : x ∈ idsOf ss := by
  obtain ⟨s, hs, rfl, _⟩ := mem_kids.1 h
  exact List.mem_map_of_mem hs
theorem Desc.head {ss : List Spn} {x c y : Int} (hc : c ∈ kidsF ss x) (h : Desc ss c y) : Desc ss x y := by
  induction h with
  | refl => exact .step .refl hc
  | step _ hz ih => exact .step ih hz
theorem Desc.ids {ss : List Spn} {x y : Int} (hx : x ∈ idsOf ss) (h : Desc ss x y) : y ∈ idsOf ss := by
  cases h with
  | refl => exact hx
  | step _ hz => exact kids_ids hz
end Go.Proofs.YtigenjeealkdlaaGreat
namespace Go.Proofs.YtigenjeealkdlaaGreat
open Go.RowKit Go.Exe
attribute [local irreducible] W AX Run RunD AStep AOp AOpX AStB AStH AStG Fits PCall GCall PostG Post Stop
end Go.Proofs.YtigenjeealkdlaaGreat
namespace Go.Proofs.YtigenjeealkdlaaGreat
open Go.RowKit Go.Exe
/-! ### the document's tree -/
theorem addK_mem {l : List Int} {x y : Int} : y ∈ addK l x ↔ y ∈ l ∨ y = x := by
  unfold addK
  split
  · exact ⟨.inl, fun h => h.elim id fun e => by subst e; assumption⟩
  · simp
theorem addK_nodup {l : List Int} (h : l.Nodup) (x : Int) : (addK l x).Nodup := by
  unfold addK
  split
  · exact h
  · rename_i hn
    exact List.nodup_append.2 ⟨h, by simp, fun a ha b hb e => by simp at hb; subst hb; exact hn (e ▸ ha)⟩
theorem addKs : ∀ (l a : List Int), a.Nodup → (l.foldl addK a).Nodup ∧ ∀ y, y ∈ l.foldl addK a ↔ y ∈ a ∨ y ∈ l
  | [], a, h => ⟨h, by simp⟩
  | x :: r, a, h => by
    obtain ⟨h1, h2⟩ := addKs r (addK a x) (addK_nodup h x)
    refine ⟨h1, fun y => ?_⟩
    rw [List.foldl_cons, h2, addK_mem, List.mem_cons]
    constructor
    · rintro ((h | h) | h)
      · exact .inl h
      · exact .inr (.inl h)
      · exact .inr (.inr h)
    · rintro (h | h | h)
      · exact .inl (.inl h)
      · exact .inl (.inr h)
      · exact .inr h
theorem srtI_lt {l : List Int} (h : l.Nodup) : (srtI l).Pairwise (· < ·) := by
  have h1 : (srtI l).Pairwise (fun a b => decide (a ≤ b) = true) := List.pairwise_mergeSort (le := fun a b : Int => decide (a ≤ b)) (fun a b c h1 h2 => by simp only [decide_eq_true_eq] at *; omega) (fun a b => by simp only [Bool.or_eq_true, decide_eq_true_eq]; omega) l
  have h2 : (srtI l).Nodup := (List.mergeSort_perm l _).nodup_iff.2 h
  refine (h1.and h2).imp fun {a b} ⟨h3, h4⟩ => ?_
  simp only [decide_eq_true_eq] at h3
  omega
theorem srtI_mem {l : List Int} {y : Int} : y ∈ srtI l ↔ y ∈ l := (List.mergeSort_perm l _).mem_iff
end Go.Proofs.YtigenjeealkdlaaGreat
namespace Go.Proofs.YtigenjeealkdlaaGreat
open Go.RowKit Go.Exe
attribute [local irreducible] W AX Run RunD AStep AOp AOpX AStB AStH AStG Fits PCall GCall PostG Post Stop
end Go.Proofs.YtigenjeealkdlaaGreat
namespace Go.Proofs.YtigenjeealkdlaaGreat
open Go.RowKit Go.Exe
attribute [local irreducible] W AX Run RunD AStep AOp AOpX AStB AStH AStG Fits PCall GCall PostG Post Stop
end Go.Proofs.YtigenjeealkdlaaGreat
namespace Go.Proofs.YtigenjeealkdlaaGreat
open Go.RowKit Go.Exe
/-! ### trees are compared -/
attribute [local irreducible] W AX Run RunD AStep AOp AOpX AStB AStH AStG Fits PCall GCall PostG Post Stop
end Go.Proofs.YtigenjeealkdlaaGreat
namespace Go.Proofs.YtigenjeealkdlaaGreat
open Go.RowKit Go.Exe
attribute [local irreducible] W AX Run RunD AStep AOp AOpX AStB AStH AStG Fits PCall GCall PostG Post Stop
end Go.Proofs.YtigenjeealkdlaaGreat
namespace Go.Proofs.YtigenjeealkdlaaGreat
open Go.RowKit Go.Exe
/-! ### assembly.Equal -/
attribute [local irreducible] W AX Run RunD AStep AOp AOpX AStB AStH AStG Fits PCall GCall PostG Post Stop
end Go.Proofs.YtigenjeealkdlaaGreat
namespace Go.Proofs.YtigenjeealkdlaaGreat
open Go.RowKit Go.Exe
/-! ### what an assembler holds -/
theorem orA {a b : Prop} : a ∨ b ↔ a ∨ a ∨ b := ⟨fun h => h.elim .inl (fun h => .inr (.inr h)), fun h => h.elim .inl id⟩
theorem recs_putK (m : RM) (s : Spn) (t : Int) : recs (putK m s) t = recs m t ++ if s.tr = t then [s] else [] := by
  unfold recs
  rw [getK_put]
  split <;> simp
theorem recs_kmN (l : List Spn) (t : Int) : recs (kmN l l.length) t = trF l t := by
  have key : ∀ (l : List Spn) (m : RM), recs (l.foldl putK m) t = recs m t ++ trF l t := by
    intro l
    induction l with
    | nil => intro m; simp [trF]
    | cons s r ih =>
      intro m
      rw [List.foldl_cons, ih, recs_putK, List.append_assoc]
      congr 1
      unfold trF
      rw [List.filter_cons]
      by_cases e : s.tr = t
      · simp [e]
      · simp [e]
  unfold kmN
  rw [List.take_length, key]
  rfl
theorem trF_set (l : List Spn) (t : Int) : trF (setS l) t = setS (trF l t) := by
  refine lt_uni ?_ (setS_lt _) fun s => ?_
  · exact (setS_lt l).sublist List.filter_sublist
  · rw [mem_trF, mem_setS, mem_setS, mem_trF]
theorem recs_more (l : List Spn) (t : Int) : recs (moreR l) t = setS (trF l t) := by
  unfold moreR
  rw [recs_kmN, trF_set]
theorem putK_key (m : RM) (s : Spn) (t : Int) : t ∈ (putK m s).map (·.1) ↔ t = s.tr ∨ t ∈ m.map (·.1) := by
  induction m with
  | nil => simp [putK]
  | cons y r ih =>
    unfold putK
    by_cases e : y.1 = s.tr
    · rw [if_pos e]; simp only [List.map_cons, List.mem_cons, e]; exact orA
    · rw [if_neg e]; simp only [List.map_cons, List.mem_cons, ih]; exact or_left_comm
theorem more_key (l : List Spn) (t : Int) : t ∈ (moreR l).map (·.1) ↔ ∃ s ∈ l, s.tr = t := by
  have key : ∀ (l : List Spn) (m : RM), t ∈ (l.foldl putK m).map (·.1) ↔ t ∈ m.map (·.1) ∨ ∃ s ∈ l, s.tr = t := by
    intro l
    induction l with
    | nil => intro m; simp
    | cons s r ih =>
      intro m
      rw [List.foldl_cons, ih, putK_key]
      simp only [List.mem_cons, exists_eq_or_imp]
      constructor
      · rintro ((h | h) | h)
        · exact .inr (.inl h.symm)
        · exact .inl h
        · exact .inr (.inr h)
      · rintro (h | h | h)
        · exact .inl (.inr h)
        · exact .inl (.inl h.symm)
        · exact .inr h
  unfold moreR kmN
  rw [List.take_length, key]
  simp only [List.map_nil, List.not_mem_nil, false_or]
  exact ⟨fun ⟨s, hs, e⟩ => ⟨s, mem_setS.1 hs, e⟩, fun ⟨s, hs, e⟩ => ⟨s, mem_setS.2 hs, e⟩⟩
theorem getK_putR (m : RM) (k : Int) (l : List Spn) (t : Int) : getK (putR m k l) t = if k = t then some l else getK m t := by
  induction m with
  | nil => simp [putR, getK]
  | cons y r ih =>
    unfold putR
    by_cases e : y.1 = k
    · rw [if_pos e]
      simp only [getK]
      by_cases e2 : y.1 = t
      · rw [if_pos e2, if_pos (e ▸ e2)]
      · rw [if_neg e2, if_neg (fun h => e2 (e.trans h)), if_neg e2]
    · rw [if_neg e]
      simp only [getK, ih]
      by_cases e2 : y.1 = t
      · rw [if_pos e2, if_neg (fun h => e (e2.trans h.symm)), if_pos e2]
      · rw [if_neg e2, if_neg e2]
theorem recs_putR (m : RM) (k : Int) (l : List Spn) (t : Int) : recs (putR m k l) t = if k = t then l else recs m t := by
  unfold recs
  rw [getK_putR]
  split <;> rfl
theorem putR_key (m : RM) (k : Int) (l : List Spn) (t : Int) : t ∈ (putR m k l).map (·.1) ↔ t = k ∨ t ∈ m.map (·.1) := by
  induction m with
  | nil => simp [putR]
  | cons y r ih =>
    unfold putR
    by_cases e : y.1 = k
    · rw [if_pos e]; simp only [List.map_cons, List.mem_cons, e]; exact orA
    · rw [if_neg e]; simp only [List.map_cons, List.mem_cons, ih]; exact or_left_comm
theorem nowR_eq {l : List Spn} {m n : RM} {t : Int} (h : recs m t = recs n t) : nowR l m t = nowR l n t := by unfold nowR; rw [h]
theorem chgR_eq {l : List Spn} {m n : RM} {t : Int} (h : recs m t = recs n t) : chgR l m t = chgR l n t := by unfold chgR; rw [nowR_eq h, h]
theorem addS_fold (l : List Spn) (m0 : RM) : ∀ (ks : List Int) (m : RM) (out : List Int), ks.Nodup → (∀ t ∈ ks, recs m t = recs m0 t) →
    (∀ t, recs (ks.foldl (addS l) (m, out)).1 t = if t ∈ ks then nowR l m0 t else recs m t) ∧ (∀ t, t ∈ (ks.foldl (addS l) (m, out)).1.map (·.1) ↔ t ∈ ks ∨ t ∈ m.map (·.1)) ∧
    ((m.map (·.1)).Nodup → ((ks.foldl (addS l) (m, out)).1.map (·.1)).Nodup) ∧ (ks.foldl (addS l) (m, out)).2 = out ++ ks.filter (chgR l m0)
  | [], m, out, _, _ => ⟨fun t => by simp, fun t => by simp, fun h => h, by simp⟩
  | k :: r, m, out, hn, he => by
    obtain ⟨hk, hr⟩ := List.nodup_cons.1 hn
    have e0 := he k (by simp)
    have hx : addS l (m, out) k = (putR m k (nowR l m0 k), if chgR l m0 k then out ++ [k] else out) := by
      unfold addS
      rw [nowR_eq e0, chgR_eq e0]
    obtain ⟨h1, h2, h3, h4⟩ := addS_fold l m0 r (putR m k (nowR l m0 k)) (if chgR l m0 k then out ++ [k] else out) hr (fun t ht => by
      rw [recs_putR, if_neg (fun e : k = t => hk (by rw [e]; exact ht))]
      exact he t (by simp [ht]))
    rw [List.foldl_cons, hx]
    refine ⟨fun t => ?_, fun t => ?_, fun h => h3 (putR_keys h), ?_⟩
    · rw [h1, recs_putR]
      by_cases a : t ∈ r
      · rw [if_pos a, if_pos (by simp [a])]
      · rw [if_neg a]
        by_cases b : k = t
        · rw [if_pos b, if_pos (by simp [b]), b]
        · rw [if_neg b, if_neg (by simp only [List.mem_cons, not_or]; exact ⟨fun e => b e.symm, a⟩)]
    · rw [h2, putR_key]
      simp only [List.mem_cons]
      rw [or_left_comm, or_assoc]
    · rw [h4, List.filter_cons]
      cases chgR l m0 k <;> simp
/-- The assembler holds the records of a list. -/
structure Hld (m : RM) (L : List Spn) : Prop where
  keys : (m.map (·.1)).Nodup
  row : ∀ t, recs m t = setS (trF L t)
  mem : ∀ t, t ∈ m.map (·.1) ↔ ∃ s ∈ L, s.tr = t
theorem setS_nil : setS [] = [] := List.eq_nil_iff_forall_not_mem.2 fun s h => by have := mem_setS.1 h; cases this
theorem hld_nil : Hld [] [] := ⟨List.Pairwise.nil, fun t => by rw [show trF [] t = [] from rfl, setS_nil]; rfl, fun t => by simp⟩
theorem trF_app (a b : List Spn) (t : Int) : trF (a ++ b) t = trF a t ++ trF b t := by unfold trF; rw [List.filter_append]
theorem nowR_is {m : RM} {L : List Spn} (h : Hld m L) (l : List Spn) (t : Int) : nowR l m t = setS (trF (L ++ l) t) := by
  unfold nowR
  rw [h.row, recs_more, trF_app]
  refine setS_eq fun s => ?_
  simp only [List.mem_append, mem_setS]
theorem winS_set (l : List Spn) : winS (setS l) = winS l := by unfold winS; rw [setS_set]
theorem more_nodup (l : List Spn) : ((moreR l).map (·.1)).Nodup := kmN_keys _ _
theorem addF_hld {m : RM} {L : List Spn} (h : Hld m L) (l : List Spn) : Hld (addF m l).1 (L ++ l) := by
  have hn : (srtI ((moreR l).map (·.1))).Nodup := (List.mergeSort_perm _ _).nodup_iff.2 (more_nodup l)
  obtain ⟨h1, h2, h3, h4⟩ := addS_fold l m (srtI ((moreR l).map (·.1))) m [] hn (fun t _ => rfl)
  refine ⟨h3 h.keys, fun t => ?_, fun t => ?_⟩
  · unfold addF
    rw [h1]
    by_cases e : t ∈ srtI ((moreR l).map (·.1))
    · rw [if_pos e, nowR_is h]
    · rw [if_neg e, h.row]
      rw [srtI_mem, more_key] at e
      have : trF l t = [] := List.eq_nil_iff_forall_not_mem.2 fun s hs => e ⟨s, (mem_trF.1 hs).1, (mem_trF.1 hs).2⟩
      rw [trF_app, this, List.append_nil]
  · unfold addF
    rw [h2, srtI_mem, more_key, h.mem]
    simp only [List.mem_append]
    constructor
    · rintro (⟨s, hs, e⟩ | ⟨s, hs, e⟩)
      · exact ⟨s, .inr hs, e⟩
      · exact ⟨s, .inl hs, e⟩
    · rintro ⟨s, hs | hs, e⟩
      · exact .inr ⟨s, hs, e⟩
      · exact .inl ⟨s, hs, e⟩
theorem hld_win {m : RM} {L : List Spn} (h : Hld m L) (t : Int) : winS (recs m t) = ofS L t := by
  rw [h.row, winS_set]
  rfl
end Go.Proofs.YtigenjeealkdlaaGreat
namespace Go.Proofs.YtigenjeealkdlaaGreat
open Go.RowKit Go.Exe
attribute [local irreducible] W AX Run RunD AStep AOp AOpX AStB AStH AStG Fits PCall GCall PostG Post Stop
end Go.Proofs.YtigenjeealkdlaaGreat
namespace Go.Proofs.YtigenjeealkdlaaGreat
open Go.RowKit Go.Exe
/-! ### the traces of an assembler -/
attribute [local irreducible] W AX Run RunD AStep AOp AOpX AStB AStH AStG Fits PCall GCall PostG Post Stop
theorem traces_p (c85 : SortI Tryz.prog 85) (m : RM) (hlen : m.length * 8 ≤ 140737488355328) : PCall Tryz.prog 71 [.c (.im (.pt [.mp 3 (rcEA m)]))] (intsT (srtI (m.map (·.1)))) := by
  have c66 := keysR_c m
  have c52 := sortedR_c c85 m _ rfl (by rw [List.length_map]; exact hlen)
  refine PCall.intro (nt := 11) (rs := [.tmp 2]) Tryz.func71 rfl ⟨by kernel_rfl, by kernel_rfl, by kernel_rfl⟩ (by simp) ?_
  rintro ⟨P, w0, ok0, may, np, pblk⟩ rfl rfl
  refine W.fits (s' := { t := [(0, .c (.ip [.mp 3 (rcEA m)]))], h := [], nx := 0, ex := [], nt := 11 }) (Fits.ipT 0 rfl (Fits.fit [] [0] 0 rfl rfl Fits.rfl)) ?_
  repeat' (first | refine W.seq fun K hK => ?_ | refine W.block ?_ | ((first | refine wR ?_ | refine wD ?_ | refine W.skip ?_ | refine W.exit ?_ | refine W.ret (Post.ret ?_) | refine aP ?_ | refine aF ?_ | refine aL ?_ | refine aU ?_ | refine aM ?_ | refine aN ?_ | refine aR ?_); simp only [go_sem, reduceCtorEq]) | refine wT ?_ | refine wF ?_ | refine wC (fun h => ?_) (fun h => ?_) | refine iK ?_ | refine aI2 ?_ | (refine hK _ ?_; clear hK K) | clear hK K)
  refine AX.gcall [] rfl rfl (c52) (by simp only [go_sem, reduceCtorEq]) (by simp only [go_sem, reduceCtorEq]) rfl rfl (by simp only [go_sem, Obj.owns]) rfl (by simp only [go_sem, Obj.owns]) rfl rfl ?_
  simp only [go_sem, reduceCtorEq]
  repeat' (first | refine W.seq fun K hK => ?_ | refine W.block ?_ | ((first | refine wR ?_ | refine wD ?_ | refine W.skip ?_ | refine W.exit ?_ | refine W.ret (Post.ret ?_) | refine aP ?_ | refine aF ?_ | refine aL ?_ | refine aU ?_ | refine aM ?_ | refine aN ?_ | refine aR ?_); simp only [go_sem, reduceCtorEq]) | refine wT ?_ | refine wF ?_ | refine wC (fun h => ?_) (fun h => ?_) | refine iK ?_ | refine aI2 ?_ | (refine hK _ ?_; clear hK K) | clear hK K)
theorem traces_c (c85 : SortI Tryz.prog 85) (m : RM) (hlen : m.length * 8 ≤ 140737488355328) : GCall Tryz.prog 71 2 (St.g [.c (.ptr 0 0)] [(0, .box 115 [.mp 1]), (1, .map 3 (rcE m))] 2) (St.r (intsT (srtI (m.map (·.1)))) [(0, .box 115 [.mp 1]), (1, .map 3 (rcE m))] 2) := by
  have hf : froE (rcEA m) = rcE m := by rw [rcEA_kEA, froE_kE]; rfl
  have hc : closeE (froE (rcEA m)) = some (rcEA m) := by
    rw [hf]
    exact closeE_map _ _ (fun x => ⟨rfl, rfl, rfl⟩) m
  have h := GCall.borrow (t := 115) hc (traces_p c85 m hlen)
  rwa [hf] at h
end Go.Proofs.YtigenjeealkdlaaGreat
namespace Go.Proofs.YtigenjeealkdlaaGreat
open Go.RowKit Go.Exe
/-! ### what an assembler tells -/
abbrev asmH (m : RM) : List (Nat × Exe.Obj) := [(0, .box 115 [.mp 1]), (1, .map 3 (rcE m))]
def recsA (m : RM) (n : Nat) : List Spn := ((srtI (m.map (·.1))).take n).flatMap (recs m)
def recsL (m : RM) : List Spn := (srtI (m.map (·.1))).flatMap (recs m)
theorem recsA_le (m : RM) (n : Nat) : (recsA m n).length ≤ (recsL m).length := by
  unfold recsA recsL
  have h := List.take_append_drop n (srtI (m.map (·.1)))
  rw [show (srtI (m.map (·.1))).flatMap (recs m) = ((srtI (m.map (·.1))).take n).flatMap (recs m) ++ ((srtI (m.map (·.1))).drop n).flatMap (recs m) by rw [← List.flatMap_append, h], List.length_append]
  omega
theorem recsA_step {m : RM} {i : Nat} {k : Int} (h : (srtI (m.map (·.1)))[i]? = some k) : recsA m (i + 1) = recsA m i ++ recs m k := by
  unfold recsA
  simp [List.take_add_one, h, List.flatMap_append]
theorem getK_key {m : RM} {k : Int} (h : k ∈ m.map (·.1)) : getK m k = some (recs m k) := by
  unfold recs
  induction m with
  | nil => cases h
  | cons y r ih =>
    unfold getK
    by_cases e : y.1 = k
    · rw [if_pos e]; rfl
    · rw [if_neg e]
      simp only [List.map_cons, List.mem_cons] at h
      exact ih (h.resolve_left fun e2 => e e2.symm)
theorem srtI_len (l : List Int) : (srtI l).length = l.length := (List.mergeSort_perm l _).length_eq
attribute [local irreducible] W AX Run RunD AStep AOp AOpX AStB AStH AStG Fits PCall GCall PostG Post Stop
theorem records_c (c144 : SortC Tryz.prog 144 14) (c85 : SortI Tryz.prog 85) (m : RM) (hlen : m.length * 8 ≤ 1000000000) (hI : ∀ k ∈ m.map (·.1), I64 k) (hB : (recsL m).length ≤ 1000000000) :
    GCall Tryz.prog 41 2 (St.g [.c (.ptr 0 0)] (asmH m) 2) (St.r (spsT (setS (recsL m))) (asmH m) 2) := by
  have c71 := traces_c c85 m (by omega)
  have c65 := set65_c c144 (recsL m)
  have hkl := srtI_len (m.map (·.1))
  rw [List.length_map] at hkl
  have hkm : ∀ k ∈ srtI (m.map (·.1)), k ∈ m.map (·.1) := fun k hk => srtI_mem.1 hk
  have hst : ∀ i k, (srtI (m.map (·.1)))[i]? = some k → recsA m (i + 1) = recsA m i ++ recs m k := fun i k h => recsA_step h
  have hle := recsA_le m
  have hall : recsA m (srtI (m.map (·.1))).length = recsL m := by unfold recsA recsL; rw [List.take_length]
  have h0 : recsA m 0 = [] := by unfold recsA; simp
  clear c144 c85
  generalize srtI (m.map (·.1)) = ks at *
  generalize recsL m = all at *
  unfold asmH
  refine GCall.introG (nt := 24) (rs := [.tmp 2]) Tryz.func41 rfl ⟨by kernel_rfl, by kernel_rfl, by kernel_rfl⟩ (by simp) ?_
  rintro ⟨P, w0, ok0, may, np, pblk⟩ rfl rfl
  simp only [go_sem]
  repeat' (first | refine W.seq fun K hK => ?_ | refine W.block ?_ | ((first | refine wR ?_ | refine wD ?_ | refine W.skip ?_ | refine W.exit ?_ | refine W.ret (Post.ret ?_) | refine aP ?_ | refine aF ?_ | refine aL ?_ | refine aU ?_ | refine aM ?_ | refine aN ?_ | refine aR ?_); simp only [go_sem, reduceCtorEq]) | refine wT ?_ | refine wF ?_ | refine wC (fun h => ?_) (fun h => ?_) | refine iK ?_ | refine aI2 ?_ | (refine hK _ ?_; clear hK K) | clear hK K)
  refine AX.gcall [0, 1] rfl rfl (c71) (by simp only [go_sem, reduceCtorEq, rnEs_rcE]) (by simp only [go_sem, reduceCtorEq, rnEs_rcE]) rfl rfl (by simp only [go_sem, Obj.owns]) rfl (by simp only [go_sem, Obj.owns]) rfl rfl ?_
  simp only [go_sem, reduceCtorEq, rnEs_rcE]
  clear c71
  repeat' (first | refine W.seq fun K hK => ?_ | refine W.block ?_ | ((first | refine wR ?_ | refine wD ?_ | refine W.skip ?_ | refine W.exit ?_ | refine W.ret (Post.ret ?_) | refine aP ?_ | refine aF ?_ | refine aL ?_ | refine aU (hnn := by simp only [go_sem, reduceCtorEq, List.length_map]) ?_ | refine aM ?_ | refine aN ?_ | refine aR ?_); simp only [go_sem, reduceCtorEq, List.length_map]) | refine wT ?_ | refine wF ?_ | refine wC (fun h => ?_) (fun h => ?_) | refine iK ?_ | refine aI2 ?_ | (refine hK _ ?_; clear hK K) | clear hK K)
  refine W.loopF (T := fun i : Nat => { t := [(0, .c (.ptr 0 0)), (3, .c (.ref 2)), (7, intsT ks), (8, ft (.int .i64 ks.length)), (9, ft (.int .i64 (i : Nat)))], h := [(0, .box 115 [.mp 1]), (1, .map 3 (rcE m)), (2, .row 88 (imR ((recsA m i).map spA)))], nx := 3, ex := [], nt := 24 })
    (Inv := fun i => i ≤ ks.length) (μ := fun i => ks.length - i) (x0 := 0) ?_ (Nat.zero_le _) ?_
  · refine Fits.adopt 3 900 88 rfl rfl rfl tE88 rfl ?_
    refine Fits.fit [(0, 0), (1, 1), (900, 2)] [0, 3, 7, 8, 9] 3 rfl rfl ?_
    simp only [go_sem, rnEs_rcE, h0]
    exact Fits.rfl
  rintro i hi KL hKL
  by_cases hlt : i < ks.length
  · obtain ⟨k, hx, hm, _⟩ := drop_at hlt
    have e1 : decide ((i : Int) < ks.length) = true := by simp; omega
    have e2 : decide (i < ks.length) = true := by simp; omega
    have hw := w64s i (by omega)
    have hko := koI (hI k (hkm k hm))
    have hget : mget (Value.int .i64 k) (rcE m) = some (false, [.im (.sl 88 ((recs m k).map spA))]) := by rw [rcE_get, getK_key (hkm k hm)]; rfl
    have h1 := hst i k hx
    have h2 := hle (i + 1)
    have h3 := hle i
    rw [h1, List.length_append] at h2
    have b1 : ((recsA m i).length + (recs m k).length) * 168 ≤ 140737488355328 := by omega
    have hrow : imR ((recsA m i).map spA) ++ imR ((recs m k).map spA) = imR ((recsA m (i + 1)).map spA) := by rw [h1]; simp [imR]
    repeat' (first | refine W.seq fun K hK => ?_ | refine W.block ?_ | ((first | refine wR ?_ | refine wD ?_ | refine W.skip ?_ | refine W.exit ?_ | refine W.ret (Post.ret ?_) | refine aP ?_ | refine aF ?_ | refine aL ?_ | refine aU (hnn := by simp only [go_sem, reduceCtorEq, List.getElem?_map, hx, iA, e1, e2, hw, hko, hget, b1, hrow, List.length_map, imR_len]) ?_ | refine aM ?_ | refine aN ?_ | refine aR ?_); simp only [go_sem, reduceCtorEq, List.getElem?_map, hx, iA, e1, e2, hw, hko, hget, b1, hrow, List.length_map, imR_len]) | refine wT ?_ | refine wF ?_ | refine wC (fun h => ?_) (fun h => ?_) | refine iK ?_ | refine aI2 ?_ | (refine hK _ ?_; clear hK K) | clear hK K)
    refine hKL.to (i + 1) (by omega) (by omega) ?_
    refine Fits.fit [(0, 0), (1, 1), (14, 2)] [0, 3, 7, 8, 9] 3 rfl rfl ?_
    simp only [go_sem, rnEs_rcE]
    exact Fits.rfl
  · obtain rfl : i = ks.length := by omega
    have e1 : decide ((ks.length : Int) < ks.length) = false := by simp
    clear hKL
    rw [hall]
    repeat' (first | refine W.seq fun K hK => ?_ | refine W.block ?_ | ((first | refine wR ?_ | refine wD ?_ | refine W.skip ?_ | refine W.exit ?_ | refine W.ret (Post.ret ?_) | refine aP ?_ | refine aF ?_ | refine aL ?_ | refine aU (hnn := by simp only [go_sem, reduceCtorEq, e1]) ?_ | refine aM ?_ | refine aN ?_ | refine aR ?_); simp only [go_sem, reduceCtorEq, e1]) | refine wT ?_ | refine wF ?_ | refine wC (fun h => ?_) (fun h => ?_) | refine iK ?_ | refine aI2 ?_ | (refine hK _ ?_; clear hK K) | clear hK K)
    refine W.ret (PostG.ret (Fits.fit [(0, 0), (1, 1)] [2] 2 rfl rfl Fits.rfl) rfl rfl ?_)
    simp only [St.r, go_sem, rnEs_rcE]
end Go.Proofs.YtigenjeealkdlaaGreat
namespace Go.Proofs.YtigenjeealkdlaaGreat
open Go.RowKit Go.Exe
def dtA (m : RM) (k : Int) : List AV := [.flat (.int .i64 k), .flat (.int .i64 1), .sl 88 ((winS (recs m k)).map spA)]
attribute [local irreducible] W AX Run RunD AStep AOp AOpX AStB AStH AStG Fits PCall GCall PostG Post Stop
theorem data_c (c144 : SortC Tryz.prog 144 14) (c85 : SortI Tryz.prog 85) (m : RM) (hlen : m.length * 8 ≤ 1000000000) (hI : ∀ k ∈ m.map (·.1), I64 k) :
    GCall Tryz.prog 37 2 (St.g [.c (.ptr 0 0)] (asmH m) 2) (St.r (.c (.ref 2)) (asmH m ++ [(2, .row 74 (imR ((srtI (m.map (·.1))).map (dtA m))))]) 3) := by
  have c71 := traces_c c85 m (by omega)
  have hkl := srtI_len (m.map (·.1))
  rw [List.length_map] at hkl
  have hkm : ∀ k ∈ srtI (m.map (·.1)), k ∈ m.map (·.1) := fun k hk => srtI_mem.1 hk
  clear c85
  generalize srtI (m.map (·.1)) = ks at *
  unfold asmH
  refine GCall.introG (nt := 23) (rs := [.tmp 2]) Tryz.func37 rfl ⟨by kernel_rfl, by kernel_rfl, by kernel_rfl⟩ (by simp) ?_
  rintro ⟨P, w0, ok0, may, np, pblk⟩ rfl rfl
  simp only [go_sem]
  repeat' (first | refine W.seq fun K hK => ?_ | refine W.block ?_ | ((first | refine wR ?_ | refine wD ?_ | refine W.skip ?_ | refine W.exit ?_ | refine W.ret (Post.ret ?_) | refine aP ?_ | refine aF ?_ | refine aL ?_ | refine aU ?_ | refine aM ?_ | refine aN ?_ | refine aR ?_); simp only [go_sem, reduceCtorEq]) | refine wT ?_ | refine wF ?_ | refine wC (fun h => ?_) (fun h => ?_) | refine iK ?_ | refine aI2 ?_ | (refine hK _ ?_; clear hK K) | clear hK K)
  refine AX.gcall [0, 1] rfl rfl (c71) (by simp only [go_sem, reduceCtorEq, rnEs_rcE]) (by simp only [go_sem, reduceCtorEq, rnEs_rcE]) rfl rfl (by simp only [go_sem, Obj.owns]) rfl (by simp only [go_sem, Obj.owns]) rfl rfl ?_
  simp only [go_sem, reduceCtorEq, rnEs_rcE]
  clear c71
  repeat' (first | refine W.seq fun K hK => ?_ | refine W.block ?_ | ((first | refine wR ?_ | refine wD ?_ | refine W.skip ?_ | refine W.exit ?_ | refine W.ret (Post.ret ?_) | refine aP ?_ | refine aF ?_ | refine aL ?_ | refine aU (hnn := by simp only [go_sem, reduceCtorEq, List.length_map]) ?_ | refine aM ?_ | refine aN ?_ | refine aR ?_); simp only [go_sem, reduceCtorEq, List.length_map]) | refine wT ?_ | refine wF ?_ | refine wC (fun h => ?_) (fun h => ?_) | refine iK ?_ | refine aI2 ?_ | (refine hK _ ?_; clear hK K) | clear hK K)
  refine W.loopF (T := fun i : Nat => { t := [(0, .c (.ptr 0 0)), (3, .c (.ref 2)), (7, intsT ks), (8, ft (.int .i64 ks.length)), (9, ft (.int .i64 (i : Nat)))], h := [(0, .box 115 [.mp 1]), (1, .map 3 (rcE m)), (2, .row 74 (imR ((ks.take i).map (dtA m))))], nx := 3, ex := [], nt := 23 })
    (Inv := fun i => i ≤ ks.length) (μ := fun i => ks.length - i) (x0 := 0) ?_ (Nat.zero_le _) ?_
  · refine Fits.adopt 3 900 74 rfl rfl rfl tE74 rfl ?_
    refine Fits.fit [(0, 0), (1, 1), (900, 2)] [0, 3, 7, 8, 9] 3 rfl rfl ?_
    simp only [go_sem, rnEs_rcE]
    exact Fits.rfl
  rintro i hi KL hKL
  by_cases hlt : i < ks.length
  · obtain ⟨k, hx, hm, _⟩ := drop_at hlt
    have e1 : decide ((i : Int) < ks.length) = true := by simp; omega
    have e2 : decide (i < ks.length) = true := by simp; omega
    have hw := w64s i (by omega)
    have c45 := spans_c c144 m k (hI k (hkm k hm))
    have hrow : imR ((ks.take (i + 1)).map (dtA m)) = imR ((ks.take i).map (dtA m)) ++ [[.im (.flat (.int .i64 k)), .im (.flat (.int .i64 1)), .im (.sl 88 ((winS (recs m k)).map spA))]] := by
      rw [List.take_add_one, hx]; simp [imR, imL, dtA]
    have hil : (ks.take i).length = i := by rw [List.length_take]; omega
    have b1 : (i + 1) * 40 ≤ 140737488355328 := by omega
    clear c144
    repeat' (first | refine W.seq fun K hK => ?_ | refine W.block ?_ | ((first | refine wR ?_ | refine wD ?_ | refine W.skip ?_ | refine W.exit ?_ | refine W.ret (Post.ret ?_) | refine aP ?_ | refine aF ?_ | refine aL ?_ | refine aU (hnn := by simp only [go_sem, reduceCtorEq, List.getElem?_map, hx, iA, e1, e2, hw, List.length_map, imR_len]) ?_ | refine aM ?_ | refine aN ?_ | refine aR ?_); simp only [go_sem, reduceCtorEq, List.getElem?_map, hx, iA, e1, e2, hw, List.length_map, imR_len]) | refine wT ?_ | refine wF ?_ | refine wC (fun h => ?_) (fun h => ?_) | refine iK ?_ | refine aI2 ?_ | (refine hK _ ?_; clear hK K) | clear hK K)
    refine AX.gcall [0, 1] rfl rfl (c45) (by simp only [go_sem, reduceCtorEq, rnEs_rcE]) (by simp only [go_sem, reduceCtorEq, rnEs_rcE]) rfl rfl (by simp only [go_sem, Obj.owns]) rfl (by simp only [go_sem, Obj.owns]) rfl rfl ?_
    simp only [go_sem, reduceCtorEq, rnEs_rcE]
    repeat' (first | refine W.seq fun K hK => ?_ | refine W.block ?_ | ((first | refine wR ?_ | refine wD ?_ | refine W.skip ?_ | refine W.exit ?_ | refine W.ret (Post.ret ?_) | refine aP ?_ | refine aF ?_ | refine aL ?_ | refine aU (hnn := by simp only [go_sem, reduceCtorEq, hw, b1, hil, List.length_map, imR_len]) ?_ | refine aM ?_ | refine aN ?_ | refine aR ?_); simp only [go_sem, reduceCtorEq, hw, b1, hil, List.length_map, imR_len]) | refine wT ?_ | refine wF ?_ | refine wC (fun h => ?_) (fun h => ?_) | refine iK ?_ | refine aI2 ?_ | (refine hK _ ?_; clear hK K) | clear hK K)
    refine hKL.to (i + 1) (by omega) (by omega) ?_
    refine Fits.fit [(0, 0), (1, 1), (14, 2)] [0, 3, 7, 8, 9] 3 rfl rfl ?_
    simp only [go_sem, rnEs_rcE, hrow]
    exact Fits.rfl
  · obtain rfl : i = ks.length := by omega
    have e1 : decide ((ks.length : Int) < ks.length) = false := by simp
    clear hKL c144
    rw [List.take_length]
    repeat' (first | refine W.seq fun K hK => ?_ | refine W.block ?_ | ((first | refine wR ?_ | refine wD ?_ | refine W.skip ?_ | refine W.exit ?_ | refine W.ret (Post.ret ?_) | refine aP ?_ | refine aF ?_ | refine aL ?_ | refine aU (hnn := by simp only [go_sem, reduceCtorEq, e1]) ?_ | refine aM ?_ | refine aN ?_ | refine aR ?_); simp only [go_sem, reduceCtorEq, e1]) | refine wT ?_ | refine wF ?_ | refine wC (fun h => ?_) (fun h => ?_) | refine iK ?_ | refine aI2 ?_ | (refine hK _ ?_; clear hK K) | clear hK K)
    refine W.ret (PostG.ret (Fits.fit [(0, 0), (1, 1), (2, 2)] [2] 3 rfl rfl Fits.rfl) rfl rfl ?_)
    simp only [St.r, go_sem, rnEs_rcE]
/-! ### the traces of a list of records -/
def trsK (l : List Spn) (n : Nat) : List Int := ((l.take n).map Spn.tr).foldl addK []
def trsF (l : List Spn) : List Int := srtI (trsK l l.length)
theorem trsK_le (l : List Spn) (n : Nat) : (trsK l n).length ≤ n := by
  have h1 : ∀ (l a : List Int), (l.foldl addK a).length ≤ l.length + a.length := by
    intro l
    induction l with
    | nil => intro a; simp
    | cons x r ih =>
      intro a
      have := ih (addK a x)
      have h2 : (addK a x).length ≤ a.length + 1 := by unfold addK; split <;> simp
      simp only [List.foldl_cons, List.length_cons]
      omega
  have := h1 ((l.take n).map Spn.tr) []
  rw [List.length_map, List.length_take, List.length_nil] at this
  unfold trsK
  omega
theorem trsF_mem {l : List Spn} {t : Int} : t ∈ trsF l ↔ ∃ s ∈ l, s.tr = t := by
  unfold trsF trsK
  rw [srtI_mem, List.take_length, (addKs _ [] List.nodup_nil).2]
  simp
theorem trsF_lt (l : List Spn) : (trsF l).Pairwise (· < ·) := srtI_lt (addKs _ [] List.nodup_nil).1
end Go.Proofs.YtigenjeealkdlaaGreat
namespace Go.Proofs.YtigenjeealkdlaaGreat
open Go.RowKit Go.Exe
/-! ### the document's forms: numbers -/
def lowU : Nat → Nat → List UInt8
  | 0, _ => []
  | k + 1, m => if m = 0 then [] else UInt8.ofNat (m % 256) :: lowU k (m / 256)
theorem lowU_len : ∀ k m, (lowU k m).length ≤ k
  | 0, m => Nat.le_refl _
  | k + 1, m => by
    unfold lowU
    split
    · simp
    · have := lowU_len k (m / 256)
      rw [List.length_cons]; omega
def numU (n : Int) : List UInt8 := UInt8.ofNat (if n < 0 then 128 - (lowU 8 n.natAbs).length else 128 + (lowU 8 n.natAbs).length) :: (lowU 8 n.natAbs).reverse.map fun b => if n < 0 then 255 - b else b
def numS (n : Int) : ByteArray := ⟨(numU n).toArray⟩
theorem numU_len (n : Int) : (numU n).length ≤ 9 := by
  have := lowU_len 8 n.natAbs
  unfold numU
  rw [List.length_cons, List.length_map, List.length_reverse]
  omega
theorem numS_size (n : Int) : (numS n).size ≤ 9 := by
  have := numU_len n
  show (numU n).toArray.size ≤ 9
  simpa using this
theorem u8n {x : Nat} (h : x < 256) : (((UInt8.ofNat x).toNat : Nat) : Int) = (x : Int) := by
  rw [UInt8.toNat_ofNat_of_lt' (by simpa [UInt8.size] using h)]
theorem u8sub (b : UInt8) : IntKind.u8.wrap (255 - (b.toNat : Int)) = (((255 - b : UInt8).toNat : Nat) : Int) := by
  have h := UInt8.toNat_lt b
  rw [IntKind.wrap_u8, UInt8.toNat_sub]
  have : (255 : UInt8).toNat = 255 := rfl
  rw [this]
  omega
theorem u64_pos {n : Int} (h1 : 0 ≤ n) (h2 : n < 9223372036854775808) : IntKind.u64.wrap n = ((n.natAbs : Nat) : Int) := by
  rw [IntKind.wrap_u64]; omega
attribute [local irreducible] W AX Run RunD AStep AOp AOpX AStB AStH AStG Fits PCall GCall PostG Post Stop
theorem mag_c (n : Int) (h : I64 n) : PCall Tryz.prog 109 [ft (.int .i64 n)] (ft (.int .u64 ((n.natAbs : Nat) : Int))) := by
  obtain ⟨h1, h2⟩ := h
  refine PCall.intro (nt := 12) (rs := [.tmp 2]) Tryz.func109 rfl ⟨by kernel_rfl, by kernel_rfl, by kernel_rfl⟩ (by simp) ?_
  rintro ⟨P, w0, ok0, may, np, pblk⟩ rfl rfl
  by_cases h : n < 0
  · have e1 : decide (n < 0) = true := by simp [h]
    have e2 : IntKind.i64.wrap (n + 1) = n + 1 := w64 (by omega) (by omega)
    have e3 : IntKind.i64.wrap (0 - (n + 1)) = 0 - (n + 1) := w64 (by omega) (by omega)
    have e4 : IntKind.u64.wrap (0 - (n + 1)) = 0 - (n + 1) := by rw [IntKind.wrap_u64]; omega
    have e5 : IntKind.u64.wrap (0 - (n + 1) + 1) = ((n.natAbs : Nat) : Int) := by rw [IntKind.wrap_u64]; omega
    repeat' (first | refine W.seq fun K hK => ?_ | refine W.block ?_ | ((first | refine wR ?_ | refine wD ?_ | refine W.skip ?_ | refine W.exit ?_ | refine W.ret (Post.ret ?_) | refine aP ?_ | refine aF ?_); simp only [go_sem, reduceCtorEq, e1, e2, e3, e4, e5]) | refine wT ?_ | refine wF ?_ | refine wC (fun h => ?_) (fun h => ?_) | refine iK ?_ | refine aI2 ?_ | (refine hK _ ?_; clear hK K) | clear hK K)
  · have e1 : decide (n < 0) = false := by simp [h]
    have e2 := u64_pos (n := n) (by omega) (by omega)
    repeat' (first | refine W.seq fun K hK => ?_ | refine W.block ?_ | ((first | refine wR ?_ | refine wD ?_ | refine W.skip ?_ | refine W.exit ?_ | refine W.ret (Post.ret ?_) | refine aP ?_ | refine aF ?_); simp only [go_sem, reduceCtorEq, e1, e2]) | refine wT ?_ | refine wF ?_ | refine wC (fun h => ?_) (fun h => ?_) | refine iK ?_ | refine aI2 ?_ | (refine hK _ ?_; clear hK K) | clear hK K)
theorem num76_c (n : Int) (h : I64 n) : PCall Tryz.prog 76 [ft (.int .i64 n)] (ft (.string (numS n))) := by
  have c109 := mag_c n h
  have hI := h
  obtain ⟨h1, h2⟩ := h
  generalize hm : n.natAbs = m at c109
  have hm64 : m < 256 ^ 8 := by omega
  have hlo := lowU_len 8 m
  refine PCall.intro (nt := 53) (rs := [.tmp 2]) Tryz.func76 rfl ⟨by kernel_rfl, by kernel_rfl, by kernel_rfl⟩ (by simp) ?_
  rintro ⟨P, w0, ok0, may, np, pblk⟩ rfl rfl
  repeat' (first | refine W.seq fun K hK => ?_ | refine W.block ?_ | ((first | refine wR ?_ | refine wD ?_ | refine W.skip ?_ | refine W.exit ?_ | refine W.ret (Post.ret ?_) | refine aP ?_ | refine aF ?_); simp only [go_sem, reduceCtorEq]) | refine wT ?_ | refine wF ?_ | refine wC (fun h => ?_) (fun h => ?_) | refine iK ?_ | refine aI2 ?_ | (refine hK _ ?_; clear hK K) | clear hK K)
  clear c109
  refine W.loopF (T := fun x : Nat × Nat × List UInt8 => { t := [(0, ft (.int .i64 n)), (3, .c (.ref 0)), (4, ft (.int .u64 ((x.2.1 : Nat) : Int)))], h := [(0, .row 5 (imR (bsA x.2.2)))], nx := 1, ex := [], nt := 53 })
    (Inv := fun x => x.2.2 ++ lowU x.1 x.2.1 = lowU 8 m ∧ x.2.1 < 256 ^ x.1 ∧ x.1 ≤ 8) (μ := fun x => x.1) (x0 := (8, m, [])) ?_ ⟨rfl, hm64, Nat.le_refl _⟩ ?_
  · refine Fits.adopt 3 900 5 rfl rfl rfl tE5 rfl ?_
    refine Fits.fit [(900, 0)] [0, 3, 4] 1 rfl rfl ?_
    simp only [go_sem]
    exact Fits.rfl
  rintro ⟨k, x, acc⟩ ⟨hacc, hx, hk8⟩ KL hKL
  dsimp only at hacc hx hk8 ⊢
  have hal : acc.length ≤ 8 := by have := congrArg List.length hacc; rw [List.length_append] at this; omega
  by_cases h0 : 0 < x
  · cases k with
    | zero => simp at hx; omega
    | succ k =>
      have e1 : decide ((x : Int) > 0) = true := by simp [h0]
      rw [lowU, if_neg (by omega)] at hacc
      have hx64 : x < 18446744073709551616 := by
        have := Nat.pow_le_pow_right (n := 256) (by decide) hk8
        omega
      have q1 : IntKind.u64.wrap (Int.tdiv (x : Int) 256) = ((x / 256 : Nat) : Int) := by
        rw [Int.tdiv_eq_ediv_of_nonneg (by omega), IntKind.wrap_u64]; omega
      have q2 : IntKind.u8.wrap (Int.tmod (x : Int) 256) = (((UInt8.ofNat (x % 256)).toNat : Nat) : Int) := by
        rw [u8n (by omega), Int.tmod_eq_emod_of_nonneg (by omega), IntKind.wrap_u8]; omega
      have hrow : imR (bsA acc) ++ [[Cell.im (AV.flat (Value.int .u8 (((UInt8.ofNat (x % 256)).toNat : Nat) : Int)))]] = imR (bsA (acc ++ [UInt8.ofNat (x % 256)])) := by simp [bsA, imR, imL]
      repeat' (first | refine W.seq fun K hK => ?_ | refine W.block ?_ | ((first | refine wR ?_ | refine wD ?_ | refine W.skip ?_ | refine W.exit ?_ | refine W.ret (Post.ret ?_) | refine aP ?_ | refine aF ?_); simp only [go_sem, reduceCtorEq, e1, q1, q2, imR_len, bsA_len, List.length_map]) | refine wT ?_ | refine wF ?_ | refine wC (fun h => ?_) (fun h => ?_) | refine iK ?_ | refine aI2 ?_ | (refine hK _ ?_; clear hK K) | clear hK K)
      refine hKL.to (k, x / 256, acc ++ [UInt8.ofNat (x % 256)]) ⟨by rw [List.append_assoc]; exact hacc, by dsimp only; rw [Nat.pow_succ] at hx; omega, by dsimp only; omega⟩ (Nat.lt_succ_self k) (Fits.fit [(8, 0)] [0, 3, 4] 1 rfl rfl ?_)
      simp only [go_sem, hrow]
      exact Fits.rfl
  · obtain rfl : x = 0 := by omega
    have e1 : decide (((0 : Nat) : Int) > 0) = false := by decide
    have hacc2 : acc = lowU 8 m := by
      rw [← hacc]
      cases k with
      | zero => simp [lowU]
      | succ k => simp [lowU]
    clear hKL hacc
    have hnum : numU n = UInt8.ofNat (if n < 0 then 128 - acc.length else 128 + acc.length) :: acc.reverse.map fun b => if n < 0 then 255 - b else b := by unfold numU; rw [hm, hacc2]
    have hres : numS n = ⟨(UInt8.ofNat (if n < 0 then 128 - acc.length else 128 + acc.length) :: acc.reverse.map fun b => if n < 0 then 255 - b else b).toArray⟩ := by unfold numS; rw [hnum]
    clear hnum hacc2 hlo hm hm64
    have wl : IntKind.i64.wrap ((acc.length : Int) - 1) = (acc.length : Int) - 1 := w64 (by omega) (by omega)
    by_cases hn : n < 0
    · have g1 : decide (n < 0) = true := by simp [hn]
      simp only [if_pos hn] at hres
      obtain ⟨hd, hhd⟩ : ∃ hd, hd = UInt8.ofNat (128 - acc.length) := ⟨_, rfl⟩
      have q3 : IntKind.u8.wrap (IntKind.i64.wrap (128 - (acc.length : Int))) = ((hd.toNat : Nat) : Int) := by
        rw [hhd, u8n (by omega), w64 (by omega) (by omega), IntKind.wrap_u8]; omega
      rw [← hhd] at hres
      clear hhd
      repeat' (first | refine W.seq fun K hK => ?_ | refine W.block ?_ | ((first | refine wR ?_ | refine wD ?_ | refine W.skip ?_ | refine W.exit ?_ | refine W.ret (Post.ret ?_) | refine aP ?_ | refine aF ?_); simp only [go_sem, reduceCtorEq, e1, g1, q3, wl, imR_len, bsA_len, List.length_map]) | refine wT ?_ | refine wF ?_ | refine wC (fun h => ?_) (fun h => ?_) | refine iK ?_ | refine aI2 ?_ | (refine hK _ ?_; clear hK K) | clear hK K)
      refine W.loopF (T := fun k : Nat => { t := [(0, ft (.int .i64 n)), (3, .c (.ref 0)), (6, .c (.ref 1)), (7, ft (.int .i64 ((k : Int) - 1)))], h := [(0, .row 5 (imR (bsA acc))), (1, .row 5 (imR (bsA (hd :: (acc.drop k).reverse.map fun b => 255 - b))))], nx := 2, ex := [], nt := 53 })
        (Inv := fun k => k ≤ acc.length) (μ := fun k => k) (x0 := acc.length) ?_ (Nat.le_refl _) ?_
      · refine Fits.fit [(0, 0), (15, 1)] [0, 3, 6, 7] 2 rfl rfl ?_
        simp only [go_sem, List.drop_length, List.reverse_nil, List.map_nil]
        exact Fits.rfl
      rintro k hk KL hKL
      cases k with
      | zero =>
        have g2 : decide ((((0 : Nat) : Int) - 1) ≥ 0) = false := by decide
        clear hKL
        rw [List.drop_zero]
        repeat' (first | refine W.seq fun K hK => ?_ | refine W.block ?_ | ((first | refine wR ?_ | refine wD ?_ | refine W.skip ?_ | refine W.exit ?_ | refine W.ret (Post.ret ?_) | refine aP ?_ | refine aF ?_); simp only [go_sem, reduceCtorEq, g2]) | refine wT ?_ | refine wF ?_ | refine wC (fun h => ?_) (fun h => ?_) | refine iK ?_ | refine aI2 ?_ | (refine hK _ ?_; clear hK K) | clear hK K)
        refine AX.bytesStr (hd :: acc.reverse.map fun b => 255 - b) rfl tL58 tU9 tE5 tU5 rfl rfl rfl ?_
        simp only [go_sem]
        repeat' (first | refine W.seq fun K hK => ?_ | refine W.block ?_ | ((first | refine wR ?_ | refine wD ?_ | refine W.skip ?_ | refine W.exit ?_ | refine W.ret (Post.ret ?_) | refine aP ?_ | refine aF ?_); simp only [go_sem, reduceCtorEq]) | refine wT ?_ | refine wF ?_ | refine wC (fun h => ?_) (fun h => ?_) | refine iK ?_ | refine aI2 ?_ | (refine hK _ ?_; clear hK K) | clear hK K)
        rw [hres]
      | succ k =>
        obtain ⟨b, hb, hbm, hbd⟩ := drop_at (show k < acc.length by omega)
        have e0 : (((k + 1 : Nat) : Int) - 1) = (k : Int) := by omega
        have g2 : decide ((k : Int) ≥ 0) = true := by simp
        have g3 : decide (k < acc.length) = true := by simp; omega
        have hw : IntKind.i64.wrap ((k : Int) - 1) = (k : Int) - 1 := w64 (by omega) (by omega)
        have hs := u8sub b
        have hbx : (bsA acc)[k]? = some [.flat (.int .u8 (b.toNat : Int))] := by unfold bsA; rw [List.getElem?_map, hb]; rfl
        have hrl : (acc.drop (k + 1)).length ≤ 8 := by rw [List.length_drop]; omega
        have hrow : imR (bsA (hd :: (acc.drop (k + 1)).reverse.map fun b => 255 - b)) ++ [[Cell.im (AV.flat (Value.int .u8 (((255 - b : UInt8).toNat : Nat) : Int)))]] = imR (bsA (hd :: (acc.drop k).reverse.map fun b => 255 - b)) := by rw [hbd]; simp [bsA, imR, imL]
        rw [e0]
        repeat' (first | refine W.seq fun K hK => ?_ | refine W.block ?_ | ((first | refine wR ?_ | refine wD ?_ | refine W.skip ?_ | refine W.exit ?_ | refine W.ret (Post.ret ?_) | refine aP ?_ | refine aF ?_); simp only [go_sem, reduceCtorEq, imR_get, hbx, imL, g1, g2, g3, hw, hs, imR_len, bsA_len, List.length_map, List.length_cons, List.length_reverse]) | refine wT ?_ | refine wF ?_ | refine wC (fun h => ?_) (fun h => ?_) | refine iK ?_ | refine aI2 ?_ | (refine hK _ ?_; clear hK K) | clear hK K)
        refine hKL.to k (by omega) (Nat.lt_succ_self k) (Fits.fit [(0, 0), (17, 1)] [0, 3, 6, 7] 2 rfl rfl ?_)
        simp only [go_sem, hrow]
        exact Fits.rfl
    · have g1 : decide (n < 0) = false := by simp [hn]
      simp only [if_neg hn] at hres
      obtain ⟨hd, hhd⟩ : ∃ hd, hd = UInt8.ofNat (128 + acc.length) := ⟨_, rfl⟩
      have q3 : IntKind.u8.wrap (IntKind.i64.wrap (128 + (acc.length : Int))) = ((hd.toNat : Nat) : Int) := by
        rw [hhd, u8n (by omega), w64 (by omega) (by omega), IntKind.wrap_u8]; omega
      rw [← hhd] at hres
      clear hhd
      repeat' (first | refine W.seq fun K hK => ?_ | refine W.block ?_ | ((first | refine wR ?_ | refine wD ?_ | refine W.skip ?_ | refine W.exit ?_ | refine W.ret (Post.ret ?_) | refine aP ?_ | refine aF ?_); simp only [go_sem, reduceCtorEq, e1, g1, q3, wl, imR_len, bsA_len, List.length_map]) | refine wT ?_ | refine wF ?_ | refine wC (fun h => ?_) (fun h => ?_) | refine iK ?_ | refine aI2 ?_ | (refine hK _ ?_; clear hK K) | clear hK K)
      refine W.loopF (T := fun k : Nat => { t := [(0, ft (.int .i64 n)), (3, .c (.ref 0)), (6, .c (.ref 1)), (7, ft (.int .i64 ((k : Int) - 1)))], h := [(0, .row 5 (imR (bsA acc))), (1, .row 5 (imR (bsA (hd :: (acc.drop k).reverse.map fun b => b))))], nx := 2, ex := [], nt := 53 })
        (Inv := fun k => k ≤ acc.length) (μ := fun k => k) (x0 := acc.length) ?_ (Nat.le_refl _) ?_
      · refine Fits.fit [(0, 0), (11, 1)] [0, 3, 6, 7] 2 rfl rfl ?_
        simp only [go_sem, List.drop_length, List.reverse_nil, List.map_nil]
        exact Fits.rfl
      rintro k hk KL hKL
      cases k with
      | zero =>
        have g2 : decide ((((0 : Nat) : Int) - 1) ≥ 0) = false := by decide
        clear hKL
        rw [List.drop_zero]
        repeat' (first | refine W.seq fun K hK => ?_ | refine W.block ?_ | ((first | refine wR ?_ | refine wD ?_ | refine W.skip ?_ | refine W.exit ?_ | refine W.ret (Post.ret ?_) | refine aP ?_ | refine aF ?_); simp only [go_sem, reduceCtorEq, g2]) | refine wT ?_ | refine wF ?_ | refine wC (fun h => ?_) (fun h => ?_) | refine iK ?_ | refine aI2 ?_ | (refine hK _ ?_; clear hK K) | clear hK K)
        refine AX.bytesStr (hd :: acc.reverse.map fun b => b) rfl tL58 tU9 tE5 tU5 rfl rfl rfl ?_
        simp only [go_sem]
        repeat' (first | refine W.seq fun K hK => ?_ | refine W.block ?_ | ((first | refine wR ?_ | refine wD ?_ | refine W.skip ?_ | refine W.exit ?_ | refine W.ret (Post.ret ?_) | refine aP ?_ | refine aF ?_); simp only [go_sem, reduceCtorEq]) | refine wT ?_ | refine wF ?_ | refine wC (fun h => ?_) (fun h => ?_) | refine iK ?_ | refine aI2 ?_ | (refine hK _ ?_; clear hK K) | clear hK K)
        rw [hres]
      | succ k =>
        obtain ⟨b, hb, hbm, hbd⟩ := drop_at (show k < acc.length by omega)
        have e0 : (((k + 1 : Nat) : Int) - 1) = (k : Int) := by omega
        have g2 : decide ((k : Int) ≥ 0) = true := by simp
        have g3 : decide (k < acc.length) = true := by simp; omega
        have hw : IntKind.i64.wrap ((k : Int) - 1) = (k : Int) - 1 := w64 (by omega) (by omega)
        have hbx : (bsA acc)[k]? = some [.flat (.int .u8 (b.toNat : Int))] := by unfold bsA; rw [List.getElem?_map, hb]; rfl
        have hrl : (acc.drop (k + 1)).length ≤ 8 := by rw [List.length_drop]; omega
        have hrow : imR (bsA (hd :: (acc.drop (k + 1)).reverse.map fun b => b)) ++ [[Cell.im (AV.flat (Value.int .u8 (((b : UInt8).toNat : Nat) : Int)))]] = imR (bsA (hd :: (acc.drop k).reverse.map fun b => b)) := by rw [hbd]; simp [bsA, imR, imL]
        rw [e0]
        repeat' (first | refine W.seq fun K hK => ?_ | refine W.block ?_ | ((first | refine wR ?_ | refine wD ?_ | refine W.skip ?_ | refine W.exit ?_ | refine W.ret (Post.ret ?_) | refine aP ?_ | refine aF ?_); simp only [go_sem, reduceCtorEq, imR_get, hbx, imL, g1, g2, g3, hw, imR_len, bsA_len, List.length_map, List.length_cons, List.length_reverse]) | refine wT ?_ | refine wF ?_ | refine wC (fun h => ?_) (fun h => ?_) | refine iK ?_ | refine aI2 ?_ | (refine hK _ ?_; clear hK K) | clear hK K)
        refine hKL.to k (by omega) (Nat.lt_succ_self k) (Fits.fit [(0, 0), (14, 1)] [0, 3, 6, 7] 2 rfl rfl ?_)
        simp only [go_sem, hrow]
        exact Fits.rfl
end Go.Proofs.YtigenjeealkdlaaGreat
namespace Go.Proofs.YtigenjeealkdlaaGreat
open Go.RowKit Go.Exe
/-! ### the document's forms: spans -/
def textS (b : ByteArray) : ByteArray := numS b.size ++ b
def boolS (b : Bool) : ByteArray := if b then numS 1 else numS 0
def valS (a : Att) : ByteArray := numS a.kind ++ textS a.text ++ numS a.num
def attS (a : Att) : ByteArray := textS a.key ++ valS a
def refS (r : Rf) : ByteArray := numS r.1 ++ numS r.2
def headS (s : Spn) : ByteArray := numS s.tr ++ numS s.id ++ numS s.pa ++ numS s.rev ++ numS s.clk ++ numS s.kd ++ textS s.sv ++ textS s.ve ++ textS s.op ++ numS s.st ++ numS s.en ++ boolS s.er ++ numS s.ats.length
def spanS (s : Spn) : ByteArray := s.lks.foldl (fun o r => o ++ refS r) (s.ats.foldl (fun o a => o ++ attS a) (headS s) ++ numS s.lks.length)
def spansS (l : List Spn) : ByteArray := l.foldl (fun o s => o ++ spanS s) (numS l.length)
def Att.I (a : Att) : Prop := (I64 a.kind ∧ I64 a.num) ∧ a.key.size ≤ 140737488355328 ∧ a.text.size ≤ 140737488355328
structure SpI (s : Spn) : Prop where
  tr : I64 s.tr
  id : I64 s.id
  pa : I64 s.pa
  rev : I64 s.rev
  clk : I64 s.clk
  kd : I64 s.kd
  st : I64 s.st
  en : I64 s.en
  sv : s.sv.size ≤ 140737488355328
  ve : s.ve.size ≤ 140737488355328
  op : s.op.size ≤ 140737488355328
  ats : ∀ a ∈ s.ats, a.I
  lks : ∀ r ∈ s.lks, I64 r.1 ∧ I64 r.2
  nat : s.ats.length ≤ 1000
  nlk : s.lks.length ≤ 1000
theorem textS_size (b : ByteArray) : (textS b).size ≤ 9 + b.size := by
  have := numS_size b.size
  unfold textS; rw [ByteArray.size_append]; omega
theorem boolS_size (b : Bool) : (boolS b).size ≤ 9 := by unfold boolS; split <;> exact numS_size _
theorem valS_size (a : Att) : (valS a).size ≤ 27 + a.text.size := by
  have h1 := numS_size a.kind; have h2 := numS_size a.num; have h3 := textS_size a.text
  unfold valS; rw [ByteArray.size_append, ByteArray.size_append]; omega
theorem attS_size (a : Att) : (attS a).size ≤ 36 + a.key.size + a.text.size := by
  have h1 := valS_size a; have h3 := textS_size a.key
  unfold attS; rw [ByteArray.size_append]; omega
theorem refS_size (r : Rf) : (refS r).size ≤ 18 := by
  have h1 := numS_size r.1; have h2 := numS_size r.2
  unfold refS; rw [ByteArray.size_append]; omega
theorem fold_size {α : Type} (f : α → ByteArray) (B : Nat) : ∀ (l : List α) (o : ByteArray), (∀ a ∈ l, (f a).size ≤ B) → (l.foldl (fun o a => o ++ f a) o).size ≤ o.size + l.length * B
  | [], o, _ => by simp
  | x :: r, o, h => by
    have h1 := fold_size f B r (o ++ f x) fun a ha => h a (by simp [ha])
    have h2 := h x (by simp)
    rw [List.foldl_cons, List.length_cons, Nat.succ_mul]
    rw [ByteArray.size_append] at h1
    omega
theorem fold_step {α : Type} {f : α → ByteArray} {l : List α} {i : Nat} {x : α} (h : l[i]? = some x) (o : ByteArray) : (l.take (i + 1)).foldl (fun o a => o ++ f a) o = (l.take i).foldl (fun o a => o ++ f a) o ++ f x := by
  rw [List.take_add_one, h]; simp [List.foldl_append]
attribute [local irreducible] W AX Run RunD AStep AOp AOpX AStB AStH AStG Fits PCall GCall PostG Post Stop
theorem text77_c (b : ByteArray) (h : b.size ≤ 140737488355328) : PCall Tryz.prog 77 [ft (.string b)] (ft (.string (textS b))) := by
  have c76 := num76_c b.size ⟨by omega, by omega⟩
  have z := numS_size b.size
  have z1 : (numS b.size).size + b.size ≤ 9223372036854775807 := by omega
  unfold textS
  refine PCall.intro (nt := 8) (rs := [.tmp 2]) Tryz.func77 rfl ⟨by kernel_rfl, by kernel_rfl, by kernel_rfl⟩ (by simp) ?_
  rintro ⟨P, w0, ok0, may, np, pblk⟩ rfl rfl
  repeat' (first | refine W.seq fun K hK => ?_ | refine W.block ?_ | ((first | refine wR ?_ | refine wD ?_ | refine W.skip ?_ | refine W.exit ?_ | refine W.ret (Post.ret ?_) | refine aP ?_ | refine aF ?_); simp only [go_sem, reduceCtorEq, z1]) | refine wT ?_ | refine wF ?_ | refine wC (fun h => ?_) (fun h => ?_) | refine iK ?_ | refine aI2 ?_ | (refine hK _ ?_; clear hK K) | clear hK K)
theorem bool78_c (b : Bool) : PCall Tryz.prog 78 [ft (.bool b)] (ft (.string (boolS b))) := by
  have c0 := num76_c 0 (by unfold I64; omega)
  have c1 := num76_c 1 (by unfold I64; omega)
  unfold boolS
  cases b with
  | false =>
    refine PCall.intro (nt := 6) (rs := [.tmp 2]) Tryz.func78 rfl ⟨by kernel_rfl, by kernel_rfl, by kernel_rfl⟩ (by simp) ?_
    rintro ⟨P, w0, ok0, may, np, pblk⟩ rfl rfl
    repeat' (first | refine W.seq fun K hK => ?_ | refine W.block ?_ | ((first | refine wR ?_ | refine wD ?_ | refine W.skip ?_ | refine W.exit ?_ | refine W.ret (Post.ret ?_) | refine aP ?_ | refine aF ?_); simp only [go_sem, reduceCtorEq]) | refine wT ?_ | refine wF ?_ | refine wC (fun h => ?_) (fun h => ?_) | refine iK ?_ | refine aI2 ?_ | (refine hK _ ?_; clear hK K) | clear hK K)
  | true =>
    refine PCall.intro (nt := 6) (rs := [.tmp 2]) Tryz.func78 rfl ⟨by kernel_rfl, by kernel_rfl, by kernel_rfl⟩ (by simp) ?_
    rintro ⟨P, w0, ok0, may, np, pblk⟩ rfl rfl
    repeat' (first | refine W.seq fun K hK => ?_ | refine W.block ?_ | ((first | refine wR ?_ | refine wD ?_ | refine W.skip ?_ | refine W.exit ?_ | refine W.ret (Post.ret ?_) | refine aP ?_ | refine aF ?_); simp only [go_sem, reduceCtorEq]) | refine wT ?_ | refine wF ?_ | refine wC (fun h => ?_) (fun h => ?_) | refine iK ?_ | refine aI2 ?_ | (refine hK _ ?_; clear hK K) | clear hK K)
theorem ref80_c (r : Rf) (h : I64 r.1 ∧ I64 r.2) : PCall Tryz.prog 80 [.g ((refA r).map .im)] (ft (.string (refS r))) := by
  have c1 := num76_c r.1 h.1
  have c2 := num76_c r.2 h.2
  have z1 := numS_size r.1
  have z2 := numS_size r.2
  have z : (numS r.1).size + (numS r.2).size ≤ 9223372036854775807 := by omega
  unfold refS
  simp only [refA, List.map]
  refine PCall.intro (nt := 10) (rs := [.tmp 2]) Tryz.func80 rfl ⟨by kernel_rfl, by kernel_rfl, by kernel_rfl⟩ (by simp) ?_
  rintro ⟨P, w0, ok0, may, np, pblk⟩ rfl rfl
  repeat' (first | refine W.seq fun K hK => ?_ | refine W.block ?_ | ((first | refine wR ?_ | refine wD ?_ | refine W.skip ?_ | refine W.exit ?_ | refine W.ret (Post.ret ?_) | refine aP ?_ | refine aF ?_); simp only [go_sem, reduceCtorEq, z]) | refine wT ?_ | refine wF ?_ | refine wC (fun h => ?_) (fun h => ?_) | refine iK ?_ | refine aI2 ?_ | (refine hK _ ?_; clear hK K) | clear hK K)
theorem val110_c (a : Att) (h : a.I) : PCall Tryz.prog 110 [.g [.im (.flat (.int .i64 a.kind)), .im (.flat (.string a.text)), .im (.flat (.int .i64 a.num))]] (ft (.string (valS a))) := by
  have c1 := num76_c a.kind h.1.1
  have c2 := num76_c a.num h.1.2
  have c3 := text77_c a.text h.2.2
  have z1 := numS_size a.kind
  have z2 := numS_size a.num
  have z3 := textS_size a.text
  have h3 := h.2.2
  have z : (numS a.kind).size + (textS a.text).size ≤ 9223372036854775807 := by omega
  have z' : (numS a.kind ++ textS a.text).size + (numS a.num).size ≤ 9223372036854775807 := by rw [ByteArray.size_append]; omega
  unfold valS
  refine PCall.intro (nt := 14) (rs := [.tmp 2]) Tryz.func110 rfl ⟨by kernel_rfl, by kernel_rfl, by kernel_rfl⟩ (by simp) ?_
  rintro ⟨P, w0, ok0, may, np, pblk⟩ rfl rfl
  repeat' (first | refine W.seq fun K hK => ?_ | refine W.block ?_ | ((first | refine wR ?_ | refine wD ?_ | refine W.skip ?_ | refine W.exit ?_ | refine W.ret (Post.ret ?_) | refine aP ?_ | refine aF ?_); simp only [go_sem, reduceCtorEq, z, z']) | refine wT ?_ | refine wF ?_ | refine wC (fun h => ?_) (fun h => ?_) | refine iK ?_ | refine aI2 ?_ | (refine hK _ ?_; clear hK K) | clear hK K)
theorem att79_c (a : Att) (h : a.I) : PCall Tryz.prog 79 [.g ((attA a).map .im)] (ft (.string (attS a))) := by
  have c1 := text77_c a.key h.2.1
  have c2 := val110_c a h
  have z1 := textS_size a.key
  have z2 := valS_size a
  have h2 := h.2.1
  have h3 := h.2.2
  have z : (textS a.key).size + (valS a).size ≤ 9223372036854775807 := by omega
  unfold attS
  simp only [attA, List.map]
  refine PCall.intro (nt := 10) (rs := [.tmp 2]) Tryz.func79 rfl ⟨by kernel_rfl, by kernel_rfl, by kernel_rfl⟩ (by simp) ?_
  rintro ⟨P, w0, ok0, may, np, pblk⟩ rfl rfl
  repeat' (first | refine W.seq fun K hK => ?_ | refine W.block ?_ | ((first | refine wR ?_ | refine wD ?_ | refine W.skip ?_ | refine W.exit ?_ | refine W.ret (Post.ret ?_) | refine aP ?_ | refine aF ?_); simp only [go_sem, reduceCtorEq, z]) | refine wT ?_ | refine wF ?_ | refine wC (fun h => ?_) (fun h => ?_) | refine iK ?_ | refine aI2 ?_ | (refine hK _ ?_; clear hK K) | clear hK K)
abbrev spB (s : Spn) : List Cell := [.im (.flat (.int .i64 s.tr)), .im (.flat (.int .i64 s.id)), .im (.flat (.int .i64 s.pa)), .im (.flat (.int .i64 s.rev)), .im (.flat (.int .i64 s.clk)), .im (.flat (.int .i64 s.kd)), .im (.flat (.string s.sv)), .im (.flat (.string s.ve)), .im (.flat (.string s.op)), .im (.flat (.int .i64 s.st)), .im (.flat (.int .i64 s.en)), .im (.flat (.bool s.er)), .im (.sl 134 (s.ats.map attA)), .im (.sl 137 (s.lks.map refA))]
theorem span46_c (s : Spn) (h : SpI s) : PCall Tryz.prog 46 [spT s] (ft (.string (spanS s))) := by
  have c1 := num76_c s.tr h.tr
  have c2 := num76_c s.id h.id
  have c3 := num76_c s.pa h.pa
  have c4 := num76_c s.rev h.rev
  have c5 := num76_c s.clk h.clk
  have c6 := num76_c s.kd h.kd
  have c7 := text77_c s.sv h.sv
  have c8 := text77_c s.ve h.ve
  have c9 := text77_c s.op h.op
  have c10 := num76_c s.st h.st
  have c11 := num76_c s.en h.en
  have c12 := bool78_c s.er
  have c13 := num76_c s.ats.length (by have := h.nat; unfold I64; omega)
  have c14 := num76_c s.lks.length (by have := h.nlk; unfold I64; omega)
  have cA : ∀ a ∈ s.ats, PCall Tryz.prog 79 [.g ((attA a).map .im)] (ft (.string (attS a))) := fun a ha => att79_c a (h.ats a ha)
  have cR : ∀ r ∈ s.lks, PCall Tryz.prog 80 [.g ((refA r).map .im)] (ft (.string (refS r))) := fun r hr => ref80_c r (h.lks r hr)
  have zA : ∀ a ∈ s.ats, (attS a).size ≤ 281474976710700 := fun a ha => by
    have h1 := attS_size a
    have h2 := h.ats a ha
    have h3 := h2.2.1
    have h4 := h2.2.2
    omega
  have zR : ∀ r ∈ s.lks, (refS r).size ≤ 18 := fun r _ => refS_size r
  have na := h.nat
  have nl := h.nlk
  have z1 := numS_size s.tr
  have z2 := numS_size s.id
  have z3 := numS_size s.pa
  have z4 := numS_size s.rev
  have z5 := numS_size s.clk
  have z6 := numS_size s.kd
  have z7 := textS_size s.sv
  have z8 := textS_size s.ve
  have z9 := textS_size s.op
  have z10 := numS_size s.st
  have z11 := numS_size s.en
  have z12 := boolS_size s.er
  have z13 := numS_size s.ats.length
  have z14 := numS_size s.lks.length
  have hsv := h.sv
  have hve := h.ve
  have hop := h.op
  clear h
  have hh : headS s = numS s.tr ++ numS s.id ++ numS s.pa ++ numS s.rev ++ numS s.clk ++ numS s.kd ++ textS s.sv ++ textS s.ve ++ textS s.op ++ numS s.st ++ numS s.en ++ boolS s.er ++ numS s.ats.length := rfl
  unfold spanS
  generalize numS s.tr = p1 at *
  generalize numS s.id = p2 at *
  generalize numS s.pa = p3 at *
  generalize numS s.rev = p4 at *
  generalize numS s.clk = p5 at *
  generalize numS s.kd = p6 at *
  generalize textS s.sv = p7 at *
  generalize textS s.ve = p8 at *
  generalize textS s.op = p9 at *
  generalize numS s.st = p10 at *
  generalize numS s.en = p11 at *
  generalize boolS s.er = p12 at *
  generalize numS s.ats.length = p13 at *
  generalize numS s.lks.length = p14 at *
  have q1 : p1.size + p2.size ≤ 9223372036854775807 := by omega
  have q2 : (p1 ++ p2).size + p3.size ≤ 9223372036854775807 := by simp only [ByteArray.size_append]; omega
  have q3 : (p1 ++ p2 ++ p3).size + p4.size ≤ 9223372036854775807 := by simp only [ByteArray.size_append]; omega
  have q4 : (p1 ++ p2 ++ p3 ++ p4).size + p5.size ≤ 9223372036854775807 := by simp only [ByteArray.size_append]; omega
  have q5 : (p1 ++ p2 ++ p3 ++ p4 ++ p5).size + p6.size ≤ 9223372036854775807 := by simp only [ByteArray.size_append]; omega
  have q6 : (p1 ++ p2 ++ p3 ++ p4 ++ p5 ++ p6).size + p7.size ≤ 9223372036854775807 := by simp only [ByteArray.size_append]; omega
  have q7 : (p1 ++ p2 ++ p3 ++ p4 ++ p5 ++ p6 ++ p7).size + p8.size ≤ 9223372036854775807 := by simp only [ByteArray.size_append]; omega
  have q8 : (p1 ++ p2 ++ p3 ++ p4 ++ p5 ++ p6 ++ p7 ++ p8).size + p9.size ≤ 9223372036854775807 := by simp only [ByteArray.size_append]; omega
  have q9 : (p1 ++ p2 ++ p3 ++ p4 ++ p5 ++ p6 ++ p7 ++ p8 ++ p9).size + p10.size ≤ 9223372036854775807 := by simp only [ByteArray.size_append]; omega
  have q10 : (p1 ++ p2 ++ p3 ++ p4 ++ p5 ++ p6 ++ p7 ++ p8 ++ p9 ++ p10).size + p11.size ≤ 9223372036854775807 := by simp only [ByteArray.size_append]; omega
  have q11 : (p1 ++ p2 ++ p3 ++ p4 ++ p5 ++ p6 ++ p7 ++ p8 ++ p9 ++ p10 ++ p11).size + p12.size ≤ 9223372036854775807 := by simp only [ByteArray.size_append]; omega
  have q12 : (p1 ++ p2 ++ p3 ++ p4 ++ p5 ++ p6 ++ p7 ++ p8 ++ p9 ++ p10 ++ p11 ++ p12).size + p13.size ≤ 9223372036854775807 := by simp only [ByteArray.size_append]; omega
  have qh : (headS s).size ≤ 422212465066200 := by rw [hh]; simp only [ByteArray.size_append]; omega
  simp only [spT, spA, List.map]
  refine PCall.intro (nt := 97) (rs := [.tmp 2]) Tryz.func46 rfl ⟨by kernel_rfl, by kernel_rfl, by kernel_rfl⟩ (by simp) ?_
  rintro ⟨P, w0, ok0, may, np, pblk⟩ rfl rfl
  repeat' (first | refine W.seq fun K hK => ?_ | refine W.block ?_ | ((first | refine wR ?_ | refine wD ?_ | refine W.skip ?_ | refine W.exit ?_ | refine W.ret (Post.ret ?_) | refine aP ?_ | refine aF ?_); simp only [go_sem, reduceCtorEq, q1, q2, q3, q4, q5, q6, q7, q8, q9, q10, q11, q12, List.length_map]) | refine wT ?_ | refine wF ?_ | refine wC (fun h => ?_) (fun h => ?_) | refine iK ?_ | refine aI2 ?_ | (refine hK _ ?_; clear hK K) | clear hK K)
  clear c1 c2 c3 c4 c5 c6 c7 c8 c9 c10 c11 c12 c13 q1 q2 q3 q4 q5 q6 q7 q8 q9 q10 q11 q12
  rw [← hh]
  clear hh z1 z2 z3 z4 z5 z6 z7 z8 z9 z10 z11 z12 z13
  generalize headS s = o0 at *
  have zo : ∀ i, i ≤ s.ats.length → ((s.ats.take i).foldl (fun o a => o ++ attS a) o0).size ≤ 300000000000000000 := fun i hi => by
    have h1 := fold_size attS 281474976710700 (s.ats.take i) o0 fun a ha => zA a (List.mem_of_mem_take ha)
    have h2 : (s.ats.take i).length * 281474976710700 ≤ 1000 * 281474976710700 := Nat.mul_le_mul_right _ (by rw [List.length_take]; omega)
    omega
  refine W.loopF (T := fun i : Nat => { t := [(1, .c (.ptr 0 0)), (3, ft (.string ((s.ats.take i).foldl (fun o a => o ++ attS a) o0))), (4, ft (.int .i64 (i : Nat)))], h := [(0, .box 88 (spB s))], nx := 1, ex := [], nt := 97 })
    (Inv := fun i => i ≤ s.ats.length) (μ := fun i => s.ats.length - i) (x0 := 0) ?_ (Nat.zero_le _) ?_
  · refine Fits.fit [(0, 0)] [1, 3, 4] 1 rfl rfl ?_
    simp only [go_sem]
    exact Fits.rfl
  rintro i hi KL hKL
  by_cases hlt : i < s.ats.length
  · obtain ⟨a, hx, hm, _⟩ := drop_at hlt
    have e1 : decide ((i : Int) < s.ats.length) = true := by simp; omega
    have e2 : decide (i < s.ats.length) = true := by simp; omega
    have hw := w64s i (by omega)
    have c79 := cA a hm
    have hst := fold_step hx (f := attS) o0
    have q1 := zo i hi
    have q2 := zA a hm
    have q3 : ((s.ats.take i).foldl (fun o a => o ++ attS a) o0).size + (attS a).size ≤ 9223372036854775807 := by omega
    have hKL2 := fun (s' : St) h => hKL.to (s' := s') (i + 1) (by omega) (by omega) h
    rw [hst] at hKL2
    clear hKL cA cR zo zA zR hst q1 q2
    generalize (s.ats.take i).foldl (fun o a => o ++ attS a) o0 = o at *
    simp only [attA, List.map] at c79
    repeat' (first | refine W.seq fun K hK => ?_ | refine W.block ?_ | ((first | refine wR ?_ | refine wD ?_ | refine W.skip ?_ | refine W.exit ?_ | refine W.ret (Post.ret ?_) | refine aP ?_ | refine aF ?_); simp only [go_sem, reduceCtorEq, List.getElem?_map, hx, attA, e1, e2, q3, hw, List.length_map]) | refine wT ?_ | refine wF ?_ | refine wC (fun h => ?_) (fun h => ?_) | refine iK ?_ | refine aI2 ?_ | (refine hK _ ?_; clear hK K) | clear hK K)
    refine hKL2 _ (Fits.fit [(0, 0)] [1, 3, 4] 1 rfl rfl ?_)
    simp only [go_sem]
    exact Fits.rfl
  · obtain rfl : i = s.ats.length := by omega
    have e1 : decide ((s.ats.length : Int) < s.ats.length) = false := by simp
    have q1 := zo _ hi
    rw [List.take_length] at q1 ⊢
    have q3 : (s.ats.foldl (fun o a => o ++ attS a) o0).size + p14.size ≤ 9223372036854775807 := by omega
    have q4 : (s.ats.foldl (fun o a => o ++ attS a) o0 ++ p14).size ≤ 300000000000000009 := by rw [ByteArray.size_append]; omega
    clear hKL zo zA cA
    generalize s.ats.foldl (fun o a => o ++ attS a) o0 = o1 at *
    repeat' (first | refine W.seq fun K hK => ?_ | refine W.block ?_ | ((first | refine wR ?_ | refine wD ?_ | refine W.skip ?_ | refine W.exit ?_ | refine W.ret (Post.ret ?_) | refine aP ?_ | refine aF ?_); simp only [go_sem, reduceCtorEq, e1, q3, List.length_map]) | refine wT ?_ | refine wF ?_ | refine wC (fun h => ?_) (fun h => ?_) | refine iK ?_ | refine aI2 ?_ | (refine hK _ ?_; clear hK K) | clear hK K)
    clear q3 c14
    generalize o1 ++ p14 = o2 at *
    have zo : ∀ i, i ≤ s.lks.length → ((s.lks.take i).foldl (fun o a => o ++ refS a) o2).size ≤ 300000000000018009 := fun i hi => by
      have h1 := fold_size refS 18 (s.lks.take i) o2 fun a ha => zR a (List.mem_of_mem_take ha)
      have h2 : (s.lks.take i).length * 18 ≤ 1000 * 18 := Nat.mul_le_mul_right _ (by rw [List.length_take]; omega)
      omega
    refine W.loopF (T := fun i : Nat => { t := [(1, .c (.ptr 0 0)), (3, ft (.string ((s.lks.take i).foldl (fun o a => o ++ refS a) o2))), (5, ft (.int .i64 (i : Nat)))], h := [(0, .box 88 (spB s))], nx := 1, ex := [], nt := 97 })
      (Inv := fun i => i ≤ s.lks.length) (μ := fun i => s.lks.length - i) (x0 := 0) ?_ (Nat.zero_le _) ?_
    · refine Fits.fit [(0, 0)] [1, 3, 5] 1 rfl rfl ?_
      simp only [go_sem]
      exact Fits.rfl
    rintro i hi KL hKL
    by_cases hlt : i < s.lks.length
    · obtain ⟨a, hx, hm, _⟩ := drop_at hlt
      have e1 : decide ((i : Int) < s.lks.length) = true := by simp; omega
      have e2 : decide (i < s.lks.length) = true := by simp; omega
      have hw := w64s i (by omega)
      have c80 := cR a hm
      have hst := fold_step hx (f := refS) o2
      have q1 := zo i hi
      have q2 := zR a hm
      have q3 : ((s.lks.take i).foldl (fun o a => o ++ refS a) o2).size + (refS a).size ≤ 9223372036854775807 := by omega
      have hKL2 := fun (s' : St) h => hKL.to (s' := s') (i + 1) (by omega) (by omega) h
      rw [hst] at hKL2
      clear hKL cR zo zR hst q1 q2
      generalize (s.lks.take i).foldl (fun o a => o ++ refS a) o2 = o at *
      simp only [refA, List.map] at c80
      repeat' (first | refine W.seq fun K hK => ?_ | refine W.block ?_ | ((first | refine wR ?_ | refine wD ?_ | refine W.skip ?_ | refine W.exit ?_ | refine W.ret (Post.ret ?_) | refine aP ?_ | refine aF ?_); simp only [go_sem, reduceCtorEq, List.getElem?_map, hx, refA, e1, e2, q3, hw, List.length_map]) | refine wT ?_ | refine wF ?_ | refine wC (fun h => ?_) (fun h => ?_) | refine iK ?_ | refine aI2 ?_ | (refine hK _ ?_; clear hK K) | clear hK K)
      refine hKL2 _ (Fits.fit [(0, 0)] [1, 3, 5] 1 rfl rfl ?_)
      simp only [go_sem]
      exact Fits.rfl
    · obtain rfl : i = s.lks.length := by omega
      have e1 : decide ((s.lks.length : Int) < s.lks.length) = false := by simp
      rw [List.take_length]
      clear hKL zo zR cR
      repeat' (first | refine W.seq fun K hK => ?_ | refine W.block ?_ | ((first | refine wR ?_ | refine wD ?_ | refine W.skip ?_ | refine W.exit ?_ | refine W.ret (Post.ret ?_) | refine aP ?_ | refine aF ?_); simp only [go_sem, reduceCtorEq, e1, List.length_map]) | refine wT ?_ | refine wF ?_ | refine wC (fun h => ?_) (fun h => ?_) | refine iK ?_ | refine aI2 ?_ | (refine hK _ ?_; clear hK K) | clear hK K)
end Go.Proofs.YtigenjeealkdlaaGreat
namespace Go.Proofs.YtigenjeealkdlaaGreat
open Go.RowKit Go.Exe
/-! ### the document's forms: lists of spans -/
/-- A span whose form is short. -/
def SpZ (s : Spn) : Prop := SpI s ∧ (spanS s).size ≤ 1000000
attribute [local irreducible] W AX Run RunD AStep AOp AOpX AStB AStH AStG Fits PCall GCall PostG Post Stop
theorem spans72_c (l : List Spn) (h : ∀ s ∈ l, SpZ s) (hlen : l.length ≤ 1000000000) : PCall Tryz.prog 72 [spsT l] (ft (.string (spansS l))) := by
  have c76 := num76_c l.length ⟨by omega, by omega⟩
  have z0 := numS_size l.length
  unfold spansS
  generalize numS l.length = o0 at *
  have zo : ∀ i, i ≤ l.length → ((l.take i).foldl (fun o a => o ++ spanS a) o0).size ≤ 1000000000000009 := fun i hi => by
    have h1 := fold_size spanS 1000000 (l.take i) o0 fun a ha => (h a (List.mem_of_mem_take ha)).2
    have h2 : (l.take i).length * 1000000 ≤ 1000000000 * 1000000 := Nat.mul_le_mul_right _ (by rw [List.length_take]; omega)
    omega
  refine PCall.intro (nt := 22) (rs := [.tmp 2]) Tryz.func72 rfl ⟨by kernel_rfl, by kernel_rfl, by kernel_rfl⟩ (by simp) ?_
  rintro ⟨P, w0, ok0, may, np, pblk⟩ rfl rfl
  repeat' (first | refine W.seq fun K hK => ?_ | refine W.block ?_ | ((first | refine wR ?_ | refine wD ?_ | refine W.skip ?_ | refine W.exit ?_ | refine W.ret (Post.ret ?_) | refine aP ?_ | refine aF ?_); simp only [go_sem, reduceCtorEq, List.length_map]) | refine wT ?_ | refine wF ?_ | refine wC (fun h => ?_) (fun h => ?_) | refine iK ?_ | refine aI2 ?_ | (refine hK _ ?_; clear hK K) | clear hK K)
  clear c76
  refine W.loopF (T := fun i : Nat => { t := [(0, spsT l), (3, ft (.string ((l.take i).foldl (fun o a => o ++ spanS a) o0))), (4, ft (.int .i64 (i : Nat)))], h := [], nx := 0, ex := [], nt := 22 })
    (Inv := fun i => i ≤ l.length) (μ := fun i => l.length - i) (x0 := 0) ?_ (Nat.zero_le _) ?_
  · refine Fits.fit [] [0, 3, 4] 0 rfl rfl ?_
    simp only [go_sem]
    exact Fits.rfl
  rintro i hi KL hKL
  by_cases hlt : i < l.length
  · obtain ⟨s, hx, hm, _⟩ := drop_at hlt
    have e1 : decide ((i : Int) < l.length) = true := by simp; omega
    have e2 : decide (i < l.length) = true := by simp; omega
    have hw := w64s i (by omega)
    have c46 := span46_c s (h s hm).1
    have hst := fold_step hx (f := spanS) o0
    have q1 := zo i hi
    have q2 := (h s hm).2
    have q3 : ((l.take i).foldl (fun o a => o ++ spanS a) o0).size + (spanS s).size ≤ 9223372036854775807 := by omega
    have hKL2 := fun (s' : St) h => hKL.to (s' := s') (i + 1) (by omega) (by omega) h
    rw [hst] at hKL2
    clear hKL zo hst q1 q2
    generalize (l.take i).foldl (fun o a => o ++ spanS a) o0 = o at *
    simp only [spT, spA, List.map] at c46
    repeat' (first | refine W.seq fun K hK => ?_ | refine W.block ?_ | ((first | refine wR ?_ | refine wD ?_ | refine W.skip ?_ | refine W.exit ?_ | refine W.ret (Post.ret ?_) | refine aP ?_ | refine aF ?_); simp only [go_sem, reduceCtorEq, List.getElem?_map, hx, spA, e1, e2, q3, hw, List.length_map]) | refine wT ?_ | refine wF ?_ | refine wC (fun h => ?_) (fun h => ?_) | refine iK ?_ | refine aI2 ?_ | (refine hK _ ?_; clear hK K) | clear hK K)
    refine hKL2 _ (Fits.fit [] [0, 3, 4] 0 rfl rfl ?_)
    simp only [go_sem]
    exact Fits.rfl
  · obtain rfl : i = l.length := by omega
    have e1 : decide ((l.length : Int) < l.length) = false := by simp
    rw [List.take_length]
    clear hKL zo
    repeat' (first | refine W.seq fun K hK => ?_ | refine W.block ?_ | ((first | refine wR ?_ | refine wD ?_ | refine W.skip ?_ | refine W.exit ?_ | refine W.ret (Post.ret ?_) | refine aP ?_ | refine aF ?_); simp only [go_sem, reduceCtorEq, e1, List.length_map]) | refine wT ?_ | refine wF ?_ | refine wC (fun h => ?_) (fun h => ?_) | refine iK ?_ | refine aI2 ?_ | (refine hK _ ?_; clear hK K) | clear hK K)
def eqF (a b : List Spn) : Bool := (spansS a).toList == (spansS b).toList
theorem same39_c (a b : List Spn) (ha : ∀ s ∈ a, SpZ s) (hb : ∀ s ∈ b, SpZ s) (hla : a.length ≤ 1000000000) (hlb : b.length ≤ 1000000000) : PCall Tryz.prog 39 [spsT a, spsT b] (ft (.bool (eqF a b))) := by
  have c1 := spans72_c a ha hla
  have c2 := spans72_c b hb hlb
  unfold eqF
  refine PCall.intro (nt := 10) (rs := [.tmp 4]) Tryz.func39 rfl ⟨by kernel_rfl, by kernel_rfl, by kernel_rfl⟩ (by simp) ?_
  rintro ⟨P, w0, ok0, may, np, pblk⟩ rfl rfl
  repeat' (first | refine W.seq fun K hK => ?_ | refine W.block ?_ | ((first | refine wR ?_ | refine wD ?_ | refine W.skip ?_ | refine W.exit ?_ | refine W.ret (Post.ret ?_) | refine aP ?_ | refine aF ?_); simp only [go_sem, reduceCtorEq]) | refine wT ?_ | refine wF ?_ | refine wC (fun h => ?_) (fun h => ?_) | refine iK ?_ | refine aI2 ?_ | (refine hK _ ?_; clear hK K) | clear hK K)
theorem eqF_refl (a : List Spn) : eqF a a = true := by unfold eqF; simp
/-! ### the forms of small numbers lead back -/
end Go.Proofs.YtigenjeealkdlaaGreat
namespace Go.Proofs.YtigenjeealkdlaaGreat
open Go.RowKit Go.Exe
/-! ### what an assembler tells, out of the list that it holds -/
theorem keys_is {m : RM} {L : List Spn} (h : Hld m L) : srtI (m.map (·.1)) = trsF L := lt_uniI (srtI_lt h.keys) (trsF_lt L) fun y => by rw [srtI_mem, trsF_mem]; exact h.mem y
theorem recsL_set {m : RM} {L : List Spn} (h : Hld m L) : setS (recsL m) = setS L := setS_eq fun s => by
  unfold recsL
  rw [List.mem_flatMap]
  constructor
  · rintro ⟨k, _, hs⟩
    rw [h.row, mem_setS] at hs
    exact (mem_trF.1 hs).1
  · intro hs
    refine ⟨s.tr, ?_, ?_⟩
    · rw [srtI_mem, h.mem]
      exact ⟨s, hs, rfl⟩
    · rw [h.row, mem_setS]
      exact mem_trF.2 ⟨hs, rfl⟩
theorem mem_le {m : RM} {L : List Spn} (h : Hld m L) : m.length ≤ L.length := by
  have h1 : (m.map (·.1)).length ≤ (L.map Spn.tr).length := h.keys.length_le_of_subset fun k hk => by
    obtain ⟨s, hs, rfl⟩ := (h.mem k).1 hk
    exact List.mem_map_of_mem hs
  rwa [List.length_map, List.length_map] at h1
theorem trsF_le (L : List Spn) : (trsF L).length ≤ L.length := by
  unfold trsF
  rw [srtI_len]
  exact trsK_le L L.length
theorem rows_nodup {m : RM} {L : List Spn} (h : Hld m L) : (recsL m).Nodup := by
  unfold recsL
  have hn : (srtI (m.map (·.1))).Nodup := (List.mergeSort_perm _ _).nodup_iff.2 h.keys
  refine List.pairwise_flatMap.2 ⟨fun k _ => by rw [h.row]; exact lt_nodup (setS_lt _), hn.imp fun {a b} hab x hx y hy e => ?_⟩
  subst e
  rw [h.row, mem_setS] at hx hy
  exact hab ((mem_trF.1 hx).2.symm.trans (mem_trF.1 hy).2)
theorem recsL_le {m : RM} {L : List Spn} (h : Hld m L) : (recsL m).length ≤ L.length := (rows_nodup h).length_le_of_subset fun s hs => by
  unfold recsL at hs
  obtain ⟨k, _, hs⟩ := List.mem_flatMap.1 hs
  rw [h.row, mem_setS] at hs
  exact (mem_trF.1 hs).1
theorem row_le {m : RM} {L : List Spn} (h : Hld m L) : ∀ y ∈ m, y.2.length ≤ L.length := fun y hy => by
  have hg : ∀ (m : RM), (m.map (·.1)).Nodup → y ∈ m → recs m y.1 = y.2 := by
    intro m
    induction m with
    | nil => intro _ h; cases h
    | cons z r ih =>
      intro hn hy
      rw [List.map_cons, List.nodup_cons] at hn
      unfold recs getK
      rcases List.mem_cons.1 hy with rfl | hy
      · rw [if_pos rfl]; rfl
      · rw [if_neg (fun e : z.1 = y.1 => hn.1 (by rw [e]; exact List.mem_map_of_mem hy))]
        exact ih hn.2 hy
  have h1 := hg m h.keys hy
  rw [← h1, h.row]
  have h2 := setS_le (trF L y.1)
  have h3 : (trF L y.1).length ≤ L.length := List.length_filter_le _ _
  omega
theorem eqSs_is (a b : List Spn) : eqSs a b = decide (a = b) := by
  rw [Bool.eq_iff_iff, decide_eq_true_eq]
  unfold eqSs
  constructor
  · intro h
    rw [Bool.and_eq_true] at h
    obtain ⟨hl, hz⟩ := h
    have hl : a.length = b.length := by simpa using hl
    induction a generalizing b with
    | nil => cases b with
      | nil => rfl
      | cons y r => simp at hl
    | cons x r ih => cases b with
      | nil => simp at hl
      | cons y r2 =>
        rw [List.zip_cons_cons, List.all_cons, Bool.and_eq_true] at hz
        have h1 : x.cmp y = 0 := by simpa using hz.1
        rw [lwSp.eq _ _ h1, ih r2 (by simpa using hl) hz.2 (by simpa using hl)]
  · rintro rfl
    rw [Bool.and_eq_true]
    refine ⟨by simp, ?_⟩
    induction a with
    | nil => rfl
    | cons x r ih => rw [List.zip_cons_cons, List.all_cons, ih, lwSp.refl]; rfl
end Go.Proofs.YtigenjeealkdlaaGreat
namespace Go.Proofs.YtigenjeealkdlaaGreat
open Go.RowKit Go.Exe
attribute [local irreducible] W AX Run RunD AStep AOp AOpX AStB AStH AStG Fits PCall GCall PostG Post Stop
end Go.Proofs.YtigenjeealkdlaaGreat
namespace Go.Proofs.YtigenjeealkdlaaGreat
open Go.RowKit Go.Exe
theorem spanS_le (s : Spn) (K : Nat) (h1 : s.sv.size ≤ K) (h2 : s.ve.size ≤ K) (h3 : s.op.size ≤ K) (h4 : ∀ a ∈ s.ats, a.key.size ≤ K ∧ a.text.size ≤ K) : (spanS s).size ≤ 200 + 3 * K + s.ats.length * (36 + 2 * K) + s.lks.length * 18 := by
  have z1 := numS_size s.tr
  have z2 := numS_size s.id
  have z3 := numS_size s.pa
  have z4 := numS_size s.rev
  have z5 := numS_size s.clk
  have z6 := numS_size s.kd
  have z7 := textS_size s.sv
  have z8 := textS_size s.ve
  have z9 := textS_size s.op
  have z10 := numS_size s.st
  have z11 := numS_size s.en
  have z12 := boolS_size s.er
  have z13 := numS_size s.ats.length
  have z14 := numS_size s.lks.length
  have hh : (headS s).size ≤ 144 + 3 * K := by unfold headS; simp only [ByteArray.size_append]; omega
  have h5 := fold_size attS (36 + 2 * K) s.ats (headS s) fun a ha => by have := attS_size a; have := h4 a ha; omega
  unfold spanS
  have h6 := fold_size refS 18 s.lks (s.ats.foldl (fun o a => o ++ attS a) (headS s) ++ numS s.lks.length) fun r _ => refS_size r
  rw [ByteArray.size_append] at h6
  omega
theorem Hld.congr {m : RM} {L L' : List Spn} (h : Hld m L) (e : ∀ s, s ∈ L ↔ s ∈ L') : Hld m L' :=
  ⟨h.keys, fun t => by rw [h.row]; exact setS_eq fun s => by rw [mem_trF, mem_trF, e s], fun t => by rw [h.mem]; exact ⟨fun ⟨s, h1, h2⟩ => ⟨s, (e s).1 h1, h2⟩, fun ⟨s, h1, h2⟩ => ⟨s, (e s).2 h1, h2⟩⟩⟩
attribute [local irreducible] W AX Run RunD AStep AOp AOpX AStB AStH AStG Fits PCall GCall PostG Post Stop
end Go.Proofs.YtigenjeealkdlaaGreat
namespace Go.Proofs.YtigenjeealkdlaaGreat
open Go.RowKit Go.Exe
/-! ### two assemblers -/
abbrev asm2 (m o : RM) : List (Nat × Exe.Obj) := [(0, .box 115 [.mp 1]), (1, .map 3 (rcE m)), (2, .box 115 [.mp 3]), (3, .map 3 (rcE o))]
attribute [local irreducible] W AX Run RunD AStep AOp AOpX AStB AStH AStG Fits PCall GCall PostG Post Stop
theorem equal38_c {m o : RM} {R Q : List Spn} (c41 : GCall Tryz.prog 41 2 (St.g [.c (.ptr 0 0)] (asmH m) 2) (St.r (spsT R) (asmH m) 2))
    (c41b : GCall Tryz.prog 41 2 (St.g [.c (.ptr 0 0)] (asmH o) 2) (St.r (spsT Q) (asmH o) 2)) :
    GCall Tryz.prog 38 4 (St.g [.c (.ptr 0 0), .c (.ptr 2 0)] (asm2 m o) 4) (St.r (ft (.bool (eqSs R Q))) (asm2 m o) 4) := by
  have c68 := equalF_c R Q
  unfold asmH asm2 at *
  refine GCall.introG (nt := 19) (rs := [.tmp 4]) Tryz.func38 rfl ⟨by kernel_rfl, by kernel_rfl, by kernel_rfl⟩ (by simp) ?_
  rintro ⟨P, w0, ok0, may, np, pblk⟩ rfl rfl
  simp only [go_sem]
  repeat' (first | refine W.seq fun K hK => ?_ | refine W.block ?_ | ((first | refine wR ?_ | refine wD ?_ | refine W.skip ?_ | refine W.exit ?_ | refine W.ret (Post.ret ?_) | refine aP ?_ | refine aF ?_ | refine aL ?_ | refine aU ?_ | refine aM ?_ | refine aN ?_ | refine aR ?_); simp only [go_sem, reduceCtorEq]) | refine wT ?_ | refine wF ?_ | refine wC (fun h => ?_) (fun h => ?_) | refine iK ?_ | refine aI2 ?_ | (refine hK _ ?_; clear hK K) | clear hK K)
  refine AX.gcall [0, 1] rfl rfl (c41) (by simp only [go_sem, reduceCtorEq, rnEs_rcE]) (by simp only [go_sem, reduceCtorEq, rnEs_rcE]) rfl rfl (by simp only [go_sem, Obj.owns]) rfl (by simp only [go_sem, Obj.owns]) rfl rfl ?_
  simp only [go_sem, reduceCtorEq, rnEs_rcE]
  clear c41
  repeat' (first | refine W.seq fun K hK => ?_ | refine W.block ?_ | ((first | refine wR ?_ | refine wD ?_ | refine W.skip ?_ | refine W.exit ?_ | refine W.ret (Post.ret ?_) | refine aP ?_ | refine aF ?_ | refine aL ?_ | refine aU ?_ | refine aM ?_ | refine aN ?_ | refine aR ?_); simp only [go_sem, reduceCtorEq]) | refine wT ?_ | refine wF ?_ | refine wC (fun h => ?_) (fun h => ?_) | refine iK ?_ | refine aI2 ?_ | (refine hK _ ?_; clear hK K) | clear hK K)
  refine AX.gcall [2, 3] rfl rfl (c41b) (by simp only [go_sem, reduceCtorEq, rnEs_rcE]) (by simp only [go_sem, reduceCtorEq, rnEs_rcE]) rfl rfl (by simp only [go_sem, Obj.owns]) rfl (by simp only [go_sem, Obj.owns]) rfl rfl ?_
  simp only [go_sem, reduceCtorEq, rnEs_rcE]
  clear c41b
  repeat' (first | refine W.seq fun K hK => ?_ | refine W.block ?_ | ((first | refine wR ?_ | refine wD ?_ | refine W.skip ?_ | refine W.exit ?_ | refine W.ret (Post.ret ?_) | refine aP ?_ | refine aF ?_ | refine aL ?_ | refine aU ?_ | refine aM ?_ | refine aN ?_ | refine aR ?_); simp only [go_sem, reduceCtorEq]) | refine wT ?_ | refine wF ?_ | refine wC (fun h => ?_) (fun h => ?_) | refine iK ?_ | refine aI2 ?_ | (refine hK _ ?_; clear hK K) | clear hK K)
  refine W.ret (PostG.ret (Fits.fit [(0, 0), (1, 1), (2, 2), (3, 3)] [4] 4 rfl rfl Fits.rfl) rfl rfl ?_)
  simp only [St.r, go_sem, rnEs_rcE]
end Go.Proofs.YtigenjeealkdlaaGreat
namespace Go.Proofs.YtigenjeealkdlaaGreat
open Go.RowKit Go.Exe
attribute [local irreducible] W AX Run RunD AStep AOp AOpX AStB AStH AStG Fits PCall GCall PostG Post Stop
end Go.Proofs.YtigenjeealkdlaaGreat
namespace Go.Proofs.YtigenjeealkdlaaGreat
open Go.ChangeShapes Go.WideShapes Go.ChangeAt Go.RowKit Go.Exe
theorem ord_j0 : (Rows.assemblyOrderlessRow.wf (OpenSpec.ofChange Rows.assemblyOrderlessSpec)) = true := by kernel_rfl
theorem ord_j1 : (laidOutB Tryz.pinned.checked.prog) = true := by kernel_rfl
theorem ord_j2 : (mapsRowed Tryz.pinned.checked.prog) = true := by kernel_rfl
theorem ord_j3 : (Tryz.f8.params.all (Tryz.pinned.checked.prog.readableRec ·)) = true := by kernel_rfl
theorem ord_j4 : (namedTie Tryz.pinned.checked.prog Rows.assemblyOrderlessRow.named Rows.assemblyOrderlessSpec.vars) = true := by kernel_rfl
theorem ord_j5 : ((Rows.assemblyOrderlessRow.stops == [])) = true := by kernel_rfl
theorem ord_j6 : ((Tryz.pinned.checked.prog.stops == [])) = true := by kernel_rfl
theorem ord_j7 : ((Rows.assemblyOrderlessRow.knobs == [])) = true := by kernel_rfl
theorem ord_j8 : ((Tryz.pinned.checked.prog.stopKnobs == [])) = true := by kernel_rfl
theorem ord_j9 : ((Rows.assemblyOrderlessRow.inPlace == Tryz.pinned.checked.prog.inPlace 8)) = true := by kernel_rfl
theorem ord_j10 : ((Rows.assemblyOrderlessRow.unfollowed == Tryz.pinned.checked.prog.unfollowed 8)) = true := by kernel_rfl
theorem ord_j11 : ((Rows.assemblyOrderlessRow.recurses == Tryz.pinned.checked.prog.recurses 8)) = true := by kernel_rfl
theorem ord_j12 : ((Rows.assemblyOrderlessRow.named == Tryz.pinned.checked.prog.varsNamed 8)) = true := by kernel_rfl
theorem ord_j13 : ((Rows.assemblyOrderlessRow.maps == (Tryz.f8.params.toList ++ Rows.assemblyOrderlessSpec.plain.varTypes Tryz.pinned.checked.prog).any (Tryz.pinned.checked.prog.mapsRec ·))) = true := by kernel_rfl
theorem ord_j14 : ((Rows.assemblyOrderlessRow.ifaces == (Tryz.f8.params.toList ++ Rows.assemblyOrderlessSpec.plain.varTypes Tryz.pinned.checked.prog).any (Tryz.pinned.checked.prog.ifacesRec ·))) = true := by kernel_rfl
theorem ord_j15 : ((Rows.assemblyOrderlessRow.mapsOut == Tryz.pinned.checked.prog.mapsAmong Tryz.f8.resultTypes.toList)) = true := by kernel_rfl
theorem ord_j16 : ((Rows.assemblyOrderlessRow.loops == (Tryz.f8.params.toList ++ Rows.assemblyOrderlessSpec.plain.varTypes Tryz.pinned.checked.prog).any (Tryz.pinned.checked.prog.loopsFrom ·))) = true := by kernel_rfl
theorem ord_j17 : ((Rows.assemblyOrderlessRow.wideKeys == (Tryz.f8.params.toList ++ Rows.assemblyOrderlessSpec.plain.varTypes Tryz.pinned.checked.prog ++ Tryz.f8.resultTypes.toList).any (Tryz.pinned.checked.prog.wideKeysFrom ·))) = true := by kernel_rfl
theorem ord_j18 : (Rows.assemblyOrderlessSpec.vars.all (Tryz.pinned.checked.prog.varReadable ·)) = true := by kernel_rfl
theorem ord_j19 : (Tryz.f8.resultTypes.all (fun t => Tryz.pinned.checked.prog.readableRec t && decide (t < Tryz.pinned.checked.prog.types.size))) = true := by kernel_rfl
theorem ord_j20 : ((Rows.assemblyOrderlessRow.ifacesOut == Tryz.f8.resultTypes.toList.any (Tryz.pinned.checked.prog.ifacesRec ·))) = true := by kernel_rfl
theorem ord_j21 : ((Rows.assemblyOrderlessRow.loopsOut == Tryz.f8.resultTypes.toList.any (Tryz.pinned.checked.prog.loopsFrom ·))) = true := by kernel_rfl
theorem ord_j22 : ((Rows.assemblyOrderlessRow.plainKeys == Tryz.pinned.checked.prog.plainKeys)) = true := by kernel_rfl
theorem ord_j23 : (Rows.assemblyOrderlessRow.shortTexts.isNone) = true := by kernel_rfl
theorem ord_j24 : (Tryz.pinned.checked.prog.stopsHeard) = true := by kernel_rfl
theorem ord_j25 : (Tryz.pinned.checked.prog.mayEnter) = true := by kernel_rfl
theorem ord_j26 : ((Rows.assemblyOrderlessRow.lifted == Tryz.pinned.checked.prog.liftsFinal)) = true := by kernel_rfl
theorem ord_j27 : ((Tryz.pinned.checked.prog.make == some Rows.assemblyOrderlessRow.make)) = true := by kernel_rfl
theorem ord_j28 : ((Rows.assemblyOrderlessRow.kinds == (if Rows.assemblyOrderlessRow.domain.isEmpty then [] else Tryz.f8.params.toList.map fun t => match Tryz.pinned.checked.prog.underlying t with | some (.int k) => some k | _ => none))) = true := by kernel_rfl
theorem ord_j29 : ((Rows.assemblyOrderlessRow.pinned == Rows.assemblyOrderlessRow.pinnedBy)) = true := by kernel_rfl
theorem ord_j30 : ((Rows.assemblyOrderlessRow.veiled == (Tryz.f8.params.toList ++ Rows.assemblyOrderlessSpec.plain.varTypes Tryz.pinned.checked.prog ++ Tryz.f8.resultTypes.toList).any (Tryz.pinned.checked.prog.veiledRec ·))) = true := by kernel_rfl
theorem ord_j31 : (Rows.assemblyOrderlessRow.veiledFits Tryz.pinned.checked.prog Tryz.f8.params.toList (Tryz.f8.params.toList ++ Rows.assemblyOrderlessSpec.plain.varTypes Tryz.pinned.checked.prog ++ Tryz.f8.resultTypes.toList)) = true := by kernel_rfl
theorem ord_joined : joinedFacts Tryz.pinned.checked.prog 8 Tryz.f8 Rows.assemblyOrderlessSpec Rows.assemblyOrderlessRow = true := by
  have h : joinedFacts Tryz.pinned.checked.prog 8 Tryz.f8 Rows.assemblyOrderlessSpec Rows.assemblyOrderlessRow = true := by
    unfold joinedFacts
    simp only [Bool.and_eq_true]
    exact ⟨⟨⟨⟨⟨⟨⟨⟨⟨⟨⟨⟨⟨⟨⟨⟨⟨⟨⟨⟨⟨⟨⟨⟨⟨⟨⟨⟨⟨⟨⟨ord_j0, ord_j1⟩, ord_j2⟩, ord_j3⟩, ord_j4⟩, ord_j5⟩, ord_j6⟩, ord_j7⟩, ord_j8⟩, ord_j9⟩, ord_j10⟩, ord_j11⟩, ord_j12⟩, ord_j13⟩, ord_j14⟩, ord_j15⟩, ord_j16⟩, ord_j17⟩, ord_j18⟩, ord_j19⟩, ord_j20⟩, ord_j21⟩, ord_j22⟩, ord_j23⟩, ord_j24⟩, ord_j25⟩, ord_j26⟩, ord_j27⟩, ord_j28⟩, ord_j29⟩, ord_j30⟩, ord_j31⟩
  exact h
end Go.Proofs.YtigenjeealkdlaaGreat
