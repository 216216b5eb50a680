/-
  AssemblySubtrees: at every family and every two ids the law answers true: Subtree and Common return what the definition says.
-/
import Derived.Test.YtigenjeealkdlaaGreatM7
import Derived.Shelf.SlSortCmp.WholeK
import Derived.Shelf.SlSortCmp.NoneTotal
import Derived.Test.YtigenjeealkdlaaGreatProg
import Derived.Shelf.SlLaysF0
import Derived.Shelf.SlGeneric
import Derived.Ground.SlsfProg
import Derived.Shelf.Spec.SlicesGrow
import Derived.Ground.Names8Prog
import Derived.Shelf.SortM.Plain
import Derived.Shelf.SortM.SortNone
import Derived.Ground.SlgmProg
import Derived.Test.YtigenjeealkdlaaGreatM3
import Derived.Test.YtigenjeealkdlaaGreatRows
set_option linter.unusedVariables false
set_option linter.unusedSimpArgs false
set_option maxHeartbeats 8000000
set_option maxRecDepth 100000
namespace Go.Proofs.YtigenjeealkdlaaGreat
open Go.RowKit Go.Exe
/-! ### ref05.Sorted -/
theorem mem_tw {α : Type} {p : α → Bool} : ∀ {l : List α} {y : α}, y ∈ l.takeWhile p → p y = true
  | z :: r, y, h => by
    rw [List.takeWhile_cons] at h
    split at h
    · rename_i hz
      rcases List.mem_cons.1 h with rfl | h
      · exact hz
      · exact mem_tw h
    · cases h
attribute [local irreducible] W AX Run RunD AStep AOp AOpX AStB AStH AStG Fits PCall GCall PostG Post Stop
end Go.Proofs.YtigenjeealkdlaaGreat
namespace Go.Proofs
open Go.Shelf Go.RowKit Go.Lib Go.Sort
theorem YtigenjeealkdlaaGreat.sortC_of {P : Program} {ρ : Ren} (L : SlLaysF0.n6 P ρ) (k : Nat) (aE : ∀ w, (isAgg (ρ.t 24)).run P w = .ok true w) (zE : ∀ w, (Go.sizeOf (ρ.t 24)).run P w = .ok k w) (ok : Go.Exe.CallOk P (ρ.f 6)) : Go.Exe.SortC P (ρ.f 6) k :=
  ⟨ok, fun p cap fv w => AnyF.slices_SortFunc_none L p cap fv w, fun enc cf g blk cap n w hk h1 hO eg hcmp hH hblk hsz => by
    have h := AnyQ.slices_SortFunc L k aE zE enc hk h1 cf hO g #[] blk 0 cap (Array.range n) w eg (fun m os dk hd x y => hcmp m os dk (by simpa using hd) x y) hH hblk (by simpa using hsz)
    rw [Array.size_range] at h
    exact h⟩
end Go.Proofs
/-
  DERIVED: THE SHELF's CONTRACTS AT THIS DUMP, IN PLAIN WORDS (tools/lay-plain.mjs out of 'AUo.lean', which tools/lay-shelf.mjs wrote): THE SAME DECLARATIONS UNDER THE SAME NAMES: 'import', 'namespace', 'open', 'def', 'theorem' AND NOTHING ELSE: no command of the shelf's: FOR A HAND-IN. Each laying: the table of numbers ('.._ren') and one theorem, a field a fact of the dump's own or the kernel's comparison; each contract: ONE APPLICATION.
-/
namespace Go.Proofs
open Go.Shelf
def Tryz.sort144_ren : Go.Shelf.Ren := ⟨fun | 6 => 144 | 15 => 113 | 14 => 158 | 28 => 139 | 29 => 140 | 20 => 162 | 21 => 163 | 22 => 164 | 23 => 165 | 24 => 166 | 25 => 167 | 26 => 168 | 27 => 169 | 46 => 170 | 47 => 153 | 48 => 154 | 49 => 171 | 50 => 172 | 57 => 173 | n => n, fun | 22 => 30 | 24 => 88 | 25 => 158 | 3 => 3 | 39 => 160 | 0 => 0 | 53 => 194 | 55 => 161 | 4 => 4 | 46 => 188 | 45 => 187 | 50 => 49 | 5 => 5 | 9 => 9 | 66 => 206 | 70 => 210 | 76 => 217 | 77 => 218 | n => n, fun | n => n⟩
theorem Tryz.sort144 : Go.Proofs.SlLaysF0.n6 Tryz.prog Tryz.sort144_ren := {
  mixed := by kernel_rfl
  f6 := ⟨Tryz.f144.name, by decide, Tryz.func144.trans (congrArg some (by kernel_rfl))⟩
  f14 := ⟨Tryz.f158.name, by decide, Tryz.func158.trans (congrArg some (by kernel_rfl))⟩
  f15 := Tryz.func113.trans (congrArg some (by kernel_rfl))
  f20 := ⟨Tryz.f162.name, by decide, Tryz.func162.trans (congrArg some (by kernel_rfl))⟩
  f21 := ⟨Tryz.f163.name, by decide, Tryz.func163.trans (congrArg some (by kernel_rfl))⟩
  f22 := ⟨Tryz.f164.name, by decide, Tryz.func164.trans (congrArg some (by kernel_rfl))⟩
  f23 := ⟨Tryz.f165.name, by decide, Tryz.func165.trans (congrArg some (by kernel_rfl))⟩
  f24 := ⟨Tryz.f166.name, by decide, Tryz.func166.trans (congrArg some (by kernel_rfl))⟩
  f25 := ⟨Tryz.f167.name, by decide, Tryz.func167.trans (congrArg some (by kernel_rfl))⟩
  f26 := ⟨Tryz.f168.name, by decide, Tryz.func168.trans (congrArg some (by kernel_rfl))⟩
  f27 := ⟨Tryz.f169.name, by decide, Tryz.func169.trans (congrArg some (by kernel_rfl))⟩
  f28 := Tryz.func139.trans (congrArg some (by kernel_rfl))
  f29 := Tryz.func140.trans (congrArg some (by kernel_rfl))
  f46 := ⟨Tryz.f170.name, by decide, Tryz.func170.trans (congrArg some (by kernel_rfl))⟩
  f47 := Tryz.func153.trans (congrArg some (by kernel_rfl))
  f48 := Tryz.func154.trans (congrArg some (by kernel_rfl))
  f49 := ⟨Tryz.f171.name, by decide, Tryz.func171.trans (congrArg some (by kernel_rfl))⟩
  f50 := ⟨Tryz.f172.name, by decide, Tryz.func172.trans (congrArg some (by kernel_rfl))⟩
  f57 := ⟨Tryz.f173.name, by decide, Tryz.func173.trans (congrArg some (by kernel_rfl))⟩
  t0 := Tryz.underlying0
  a0 := Tryz.isAgg0
  z0 := Tryz.sizeOf0
  v0 := Tryz.zeroValue0
  t3 := Tryz.underlying3
  a3 := Tryz.isAgg3
  z3 := Tryz.sizeOf3
  v3 := Tryz.zeroValue3
  t4 := Tryz.underlying4
  a4 := Tryz.isAgg4
  z4 := Tryz.sizeOf4
  v4 := Tryz.zeroValue4
  t5 := Tryz.underlying5
  a5 := Tryz.isAgg5
  z5 := Tryz.sizeOf5
  v5 := Tryz.zeroValue5
  t9 := Tryz.underlying9
  a9 := Tryz.isAgg9
  z9 := Tryz.sizeOf9
  v9 := Tryz.zeroValue9
  t22 := Tryz.underlying30
  a22 := Tryz.isAgg30
  z22 := Tryz.sizeOf30
  v22 := Tryz.zeroValue30
  t25 := Tryz.underlying158
  a25 := Tryz.isAgg158
  z25 := Tryz.sizeOf158
  v25 := Tryz.zeroValue158
  t39 := Tryz.underlying160
  a39 := Tryz.isAgg160
  z39 := Tryz.sizeOf160
  v39 := Tryz.zeroValue160
  t45 := Tryz.underlying187
  a45 := Tryz.isAgg187
  z45 := Tryz.sizeOf187
  v45 := Tryz.zeroValue187
  t46 := Tryz.underlying188
  a46 := Tryz.isAgg188
  z46 := Tryz.sizeOf188
  v46 := Tryz.zeroValue188
  t50 := Tryz.underlying49
  a50 := Tryz.isAgg49
  z50 := Tryz.sizeOf49
  v50 := Tryz.zeroValue49
  t53 := Tryz.underlying194
  a53 := Tryz.isAgg194
  z53 := Tryz.sizeOf194
  v53 := Tryz.zeroValue194
  t55 := Tryz.underlying161
  a55 := Tryz.isAgg161
  z55 := Tryz.sizeOf161
  v55 := Tryz.zeroValue161
  t66 := Tryz.underlying206
  a66 := Tryz.isAgg206
  z66 := Tryz.sizeOf206
  v66 := Tryz.zeroValue206
  t70 := Tryz.underlying210
  a70 := Tryz.isAgg210
  z70 := Tryz.sizeOf210
  v70 := Tryz.zeroValue210
  t76 := Tryz.underlying217
  a76 := Tryz.isAgg217
  z76 := Tryz.sizeOf217
  v76 := Tryz.zeroValue217
  t77 := Tryz.underlying218
  a77 := Tryz.isAgg218
  z77 := Tryz.sizeOf218
  v77 := Tryz.zeroValue218 }
end Go.Proofs
/-
  DERIVED: THE SHELF's CONTRACTS AT THIS DUMP, IN PLAIN WORDS (tools/lay-plain.mjs out of 'AUp.lean', which tools/lay-shelf.mjs wrote): THE SAME DECLARATIONS UNDER THE SAME NAMES: 'import', 'namespace', 'open', 'def', 'theorem' AND NOTHING ELSE: no command of the shelf's: FOR A HAND-IN. Each laying: the table of numbers ('.._ren') and one theorem, a field a fact of the dump's own or the kernel's comparison; each contract: ONE APPLICATION.
-/
namespace Go.Proofs
open Go.Shelf
def Tryz.grow84_ren : Go.Shelf.Ren := ⟨fun | 4 => 84 | n => n, fun | 22 => 26 | 25 => 3 | 3 => 3 | 4 => 4 | 9 => 9 | 20 => 20 | 0 => 0 | n => n, fun | n => n⟩
theorem Tryz.grow84 : Go.Proofs.Lays8.n4 Tryz.prog Tryz.grow84_ren := {
  mixed := by kernel_rfl
  f4 := ⟨Tryz.f84.name, by decide, Tryz.func84.trans (congrArg some (by kernel_rfl))⟩
  t0 := Tryz.underlying0
  a0 := Tryz.isAgg0
  z0 := Tryz.sizeOf0
  v0 := Tryz.zeroValue0
  t3 := Tryz.underlying3
  a3 := Tryz.isAgg3
  z3 := Tryz.sizeOf3
  v3 := Tryz.zeroValue3
  t4 := Tryz.underlying4
  a4 := Tryz.isAgg4
  z4 := Tryz.sizeOf4
  v4 := Tryz.zeroValue4
  t9 := Tryz.underlying9
  a9 := Tryz.isAgg9
  z9 := Tryz.sizeOf9
  v9 := Tryz.zeroValue9
  t20 := Tryz.underlying20
  a20 := Tryz.isAgg20
  z20 := Tryz.sizeOf20
  v20 := Tryz.zeroValue20
  t22 := Tryz.underlying26
  a22 := Tryz.isAgg26
  z22 := Tryz.sizeOf26
  v22 := Tryz.zeroValue26 }
def Tryz.grow122_ren : Go.Shelf.Ren := ⟨fun | 4 => 122 | n => n, fun | 22 => 30 | 25 => 88 | 3 => 3 | 4 => 4 | 9 => 9 | 20 => 20 | 0 => 0 | n => n, fun | n => n⟩
theorem Tryz.grow122 : Go.Proofs.Lays8.n4 Tryz.prog Tryz.grow122_ren := {
  mixed := by kernel_rfl
  f4 := ⟨Tryz.f122.name, by decide, Tryz.func122.trans (congrArg some (by kernel_rfl))⟩
  t0 := Tryz.underlying0
  a0 := Tryz.isAgg0
  z0 := Tryz.sizeOf0
  v0 := Tryz.zeroValue0
  t3 := Tryz.underlying3
  a3 := Tryz.isAgg3
  z3 := Tryz.sizeOf3
  v3 := Tryz.zeroValue3
  t4 := Tryz.underlying4
  a4 := Tryz.isAgg4
  z4 := Tryz.sizeOf4
  v4 := Tryz.zeroValue4
  t9 := Tryz.underlying9
  a9 := Tryz.isAgg9
  z9 := Tryz.sizeOf9
  v9 := Tryz.zeroValue9
  t20 := Tryz.underlying20
  a20 := Tryz.isAgg20
  z20 := Tryz.sizeOf20
  v20 := Tryz.zeroValue20
  t22 := Tryz.underlying30
  a22 := Tryz.isAgg30
  z22 := Tryz.sizeOf30
  v22 := Tryz.zeroValue30 }
def Tryz.sort85_ren : Go.Shelf.Ren := ⟨fun | 5 => 85 | 8 => 113 | 7 => 112 | 19 => 139 | 20 => 140 | 10 => 130 | 11 => 131 | 12 => 132 | 13 => 133 | 14 => 134 | 15 => 135 | 16 => 136 | 17 => 137 | 18 => 138 | 30 => 152 | 31 => 153 | 32 => 154 | 33 => 155 | 34 => 156 | 35 => 114 | 40 => 161 | n => n, fun | 23 => 26 | 25 => 3 | 3 => 3 | 32 => 160 | 22 => 26 | 0 => 0 | 44 => 194 | 46 => 161 | 4 => 4 | 36 => 188 | 35 => 187 | 41 => 49 | 5 => 5 | 9 => 9 | 53 => 206 | 57 => 210 | 63 => 217 | 64 => 218 | n => n, fun | n => n⟩
theorem Tryz.sort85 : Go.Proofs.SlLaysM.n5 Tryz.prog Tryz.sort85_ren := {
  mixed := by kernel_rfl
  f5 := ⟨Tryz.f85.name, by decide, Tryz.func85.trans (congrArg some (by kernel_rfl))⟩
  f7 := ⟨Tryz.f112.name, by decide, Tryz.func112.trans (congrArg some (by kernel_rfl))⟩
  f8 := Tryz.func113.trans (congrArg some (by kernel_rfl))
  f10 := ⟨Tryz.f130.name, by decide, Tryz.func130.trans (congrArg some (by kernel_rfl))⟩
  f11 := ⟨Tryz.f131.name, by decide, Tryz.func131.trans (congrArg some (by kernel_rfl))⟩
  f12 := ⟨Tryz.f132.name, by decide, Tryz.func132.trans (congrArg some (by kernel_rfl))⟩
  f13 := ⟨Tryz.f133.name, by decide, Tryz.func133.trans (congrArg some (by kernel_rfl))⟩
  f14 := ⟨Tryz.f134.name, by decide, Tryz.func134.trans (congrArg some (by kernel_rfl))⟩
  f15 := ⟨Tryz.f135.name, by decide, Tryz.func135.trans (congrArg some (by kernel_rfl))⟩
  f16 := ⟨Tryz.f136.name, by decide, Tryz.func136.trans (congrArg some (by kernel_rfl))⟩
  f17 := ⟨Tryz.f137.name, by decide, Tryz.func137.trans (congrArg some (by kernel_rfl))⟩
  f18 := ⟨Tryz.f138.name, by decide, Tryz.func138.trans (congrArg some (by kernel_rfl))⟩
  f19 := Tryz.func139.trans (congrArg some (by kernel_rfl))
  f20 := Tryz.func140.trans (congrArg some (by kernel_rfl))
  f30 := ⟨Tryz.f152.name, by decide, Tryz.func152.trans (congrArg some (by kernel_rfl))⟩
  f31 := Tryz.func153.trans (congrArg some (by kernel_rfl))
  f32 := Tryz.func154.trans (congrArg some (by kernel_rfl))
  f33 := ⟨Tryz.f155.name, by decide, Tryz.func155.trans (congrArg some (by kernel_rfl))⟩
  f34 := ⟨Tryz.f156.name, by decide, Tryz.func156.trans (congrArg some (by kernel_rfl))⟩
  f35 := ⟨Tryz.f114.name, by decide, Tryz.func114.trans (congrArg some (by kernel_rfl))⟩
  f40 := ⟨Tryz.f161.name, by decide, Tryz.func161.trans (congrArg some (by kernel_rfl))⟩
  t0 := Tryz.underlying0
  a0 := Tryz.isAgg0
  z0 := Tryz.sizeOf0
  v0 := Tryz.zeroValue0
  t3 := Tryz.underlying3
  a3 := Tryz.isAgg3
  z3 := Tryz.sizeOf3
  v3 := Tryz.zeroValue3
  t4 := Tryz.underlying4
  a4 := Tryz.isAgg4
  z4 := Tryz.sizeOf4
  v4 := Tryz.zeroValue4
  t5 := Tryz.underlying5
  a5 := Tryz.isAgg5
  z5 := Tryz.sizeOf5
  v5 := Tryz.zeroValue5
  t9 := Tryz.underlying9
  a9 := Tryz.isAgg9
  z9 := Tryz.sizeOf9
  v9 := Tryz.zeroValue9
  t22 := Tryz.underlying26
  a22 := Tryz.isAgg26
  z22 := Tryz.sizeOf26
  v22 := Tryz.zeroValue26
  t23 := Tryz.underlying26
  a23 := Tryz.isAgg26
  z23 := Tryz.sizeOf26
  v23 := Tryz.zeroValue26
  t25 := Tryz.underlying3
  a25 := Tryz.isAgg3
  z25 := Tryz.sizeOf3
  v25 := Tryz.zeroValue3
  t32 := Tryz.underlying160
  a32 := Tryz.isAgg160
  z32 := Tryz.sizeOf160
  v32 := Tryz.zeroValue160
  t35 := Tryz.underlying187
  a35 := Tryz.isAgg187
  z35 := Tryz.sizeOf187
  v35 := Tryz.zeroValue187
  t36 := Tryz.underlying188
  a36 := Tryz.isAgg188
  z36 := Tryz.sizeOf188
  v36 := Tryz.zeroValue188
  t41 := Tryz.underlying49
  a41 := Tryz.isAgg49
  z41 := Tryz.sizeOf49
  v41 := Tryz.zeroValue49
  t44 := Tryz.underlying194
  a44 := Tryz.isAgg194
  z44 := Tryz.sizeOf194
  v44 := Tryz.zeroValue194
  t46 := Tryz.underlying161
  a46 := Tryz.isAgg161
  z46 := Tryz.sizeOf161
  v46 := Tryz.zeroValue161
  t53 := Tryz.underlying206
  a53 := Tryz.isAgg206
  z53 := Tryz.sizeOf206
  v53 := Tryz.zeroValue206
  t57 := Tryz.underlying210
  a57 := Tryz.isAgg210
  z57 := Tryz.sizeOf210
  v57 := Tryz.zeroValue210
  t63 := Tryz.underlying217
  a63 := Tryz.isAgg217
  z63 := Tryz.sizeOf217
  v63 := Tryz.zeroValue217
  t64 := Tryz.underlying218
  a64 := Tryz.isAgg218
  z64 := Tryz.sizeOf218
  v64 := Tryz.zeroValue218 }
end Go.Proofs
namespace Go.Proofs.YtigenjeealkdlaaGreat
open Go.RowKit Go.Exe
theorem aggOf {P : Program} {t : TypeId} {n : Nat} (ht : TI P t = some (true, n)) (w : World) : (isAgg t).run P w = .ok true w := by
  obtain ⟨i, d, hi, hd, hg, hn⟩ := TI_spec ht
  unfold isAgg
  simp only [Sem.run_bind, run_underlying hd, Result.andThen_ok]
  rw [← hg]
  cases d <;> rfl
theorem sizeOf_ {P : Program} {t : TypeId} {g : Bool} {n : Nat} (ht : TI P t = some (g, n)) (w : World) : (Go.sizeOf t).run P w = .ok n w := by
  obtain ⟨i, d, h1, h2, h3, h4⟩ := TI_spec ht
  simp [sizeOf, typeInfo, h1, h4]
theorem sort144_c : SortC Tryz.prog 144 14 := sortC_of Tryz.sort144 14 (aggOf tI88) (sizeOf_ tI88) ⟨Tryz.f144, Tryz.func144, by kernel_rfl, by kernel_rfl⟩
theorem sort85_c : SortI Tryz.prog 85 := ⟨⟨Tryz.f85, Tryz.func85, by kernel_rfl, by kernel_rfl⟩, fun p cap w => AnyM.slices_Sort_int_none Tryz.sort85 p cap w, fun blk cap zs w hH hb hn => AnyM.slices_Sort_int Tryz.sort85 blk 0 cap zs w hH hb hn⟩
theorem grow84_c : GrowC Tryz.prog 84 3 1 8 := by
  refine ⟨⟨Tryz.f84, Tryz.func84, by kernel_rfl, by kernel_rfl⟩, fun w => Any8.slices_Grow_room Tryz.grow84 none 0 0 0 w (Nat.le_refl _) (by decide) (by decide) (Nat.le_refl _), fun n w h0 h1 h2 => ?_⟩
  obtain ⟨i0, hi0, hsz, hbs⟩ := EInfo_spec tE3
  obtain ⟨i1, z, hi1, hz, hzs, _⟩ := ZV_spec tZ3
  obtain rfl : i0 = i1 := by rw [hi0] at hi1; exact Option.some.inj hi1
  have hzz : z.cells.size = 1 := by rw [← Array.length_toList, hzs]; rfl
  have hb1 : n * i0.bytes ≤ 140737488355328 := by rw [hbs]; exact h1
  refine (Any8.slices_Grow_grow Tryz.grow84 i0 z hi0 hz (by rw [hsz]; exact Nat.zero_lt_one) none 0 0 n [] w (Nat.le_refl _) (by omega) (by rw [Nat.zero_add]; exact hb1) (by omega) (by simp) (fun _ => rfl) (fun a ha => by cases ha)).mono fun ed w' ⟨e1, e2⟩ => ?_
  have hge := Go.grownCap_ge w (0 + n) 0 (Tryz.grow84_ren.t 25)
  have hle := Go.grownCap_le_maxLen w (0 + n) 0 (Tryz.grow84_ren.t 25) (by unfold maxLen; omega)
  refine ⟨_, _, e1, hle, ?_, e2⟩
  have hzc : ∀ m, (Builtin.zeroCells z.cells m).size = m := fun m => by simp [Builtin.zeroCells, hzz]
  simp only [Array.size_append, hzc, Nat.zero_add] at hge ⊢
  simp only [List.size_toArray, List.length_nil]
  omega
theorem grow122_c : GrowC Tryz.prog 122 88 14 168 := by
  refine ⟨⟨Tryz.f122, Tryz.func122, by kernel_rfl, by kernel_rfl⟩, fun w => Any8.slices_Grow_room Tryz.grow122 none 0 0 0 w (Nat.le_refl _) (by decide) (by decide) (Nat.le_refl _), fun n w h0 h1 h2 => ?_⟩
  obtain ⟨i0, hi0, hsz, hbs⟩ := EInfo_spec tE88
  obtain ⟨i1, z, hi1, hz, hzs, _⟩ := ZV_spec tZ88
  obtain rfl : i0 = i1 := by rw [hi0] at hi1; exact Option.some.inj hi1
  have hzz : z.cells.size = 14 := by rw [← Array.length_toList, hzs]; rfl
  have hb1 : n * i0.bytes ≤ 140737488355328 := by rw [hbs]; exact h1
  refine (Any8.slices_Grow_grow Tryz.grow122 i0 z hi0 hz (by rw [hsz]; exact Nat.zero_lt_succ _) none 0 0 n [] w (Nat.le_refl _) (by omega) (by rw [Nat.zero_add]; exact hb1) (by omega) (by simp) (fun _ => rfl) (fun a ha => by cases ha)).mono fun ed w' ⟨e1, e2⟩ => ?_
  have hge := Go.grownCap_ge w (0 + n) 0 (Tryz.grow122_ren.t 25)
  have hle := Go.grownCap_le_maxLen w (0 + n) 0 (Tryz.grow122_ren.t 25) (by unfold maxLen; omega)
  refine ⟨_, _, e1, hle, ?_, e2⟩
  have hzc : ∀ m, (Builtin.zeroCells z.cells m).size = m * 14 := fun m => by simp [Builtin.zeroCells, hzz]
  simp only [Array.size_append, hzc, Nat.zero_add] at hge ⊢
  simp only [List.size_toArray, List.length_nil]
  omega
end Go.Proofs.YtigenjeealkdlaaGreat
namespace Go.Proofs.YtigenjeealkdlaaGreat
open Go.RowKit Go.Exe
/-! ### what is below a span, and the parts of a tree -/
inductive Desc (ss : List Spn) (x : Int) : Int → Prop
  | refl : Desc ss x x
  | step {y z : Int} : Desc ss x y → z ∈ kidsF ss y → Desc ss x z
theorem fnd_at {nds : List Nd} (hs : nds.Pairwise fun a b => a.id < b.id) {k : Nat} {n : Nd} (h : nds[k]? = some n) : fnd nds n.id = k := by
  obtain ⟨hk, he⟩ := List.getElem?_eq_some_iff.1 h
  refine fnd_eq n.id nds k (by omega) (fun a m ha hm => ?_) (fun a m ha hm => ?_)
  · obtain ⟨h1, h2⟩ := List.getElem?_eq_some_iff.1 hm
    have := List.pairwise_iff_getElem.1 hs a k h1 hk ha
    rw [he, h2] at this
    exact this
  · obtain ⟨h1, h2⟩ := List.getElem?_eq_some_iff.1 hm
    by_cases e : k = a
    · subst e; rw [h] at hm; cases hm; omega
    · have := List.pairwise_iff_getElem.1 hs k a hk h1 (by omega)
      rw [he, h2] at this
      omega
theorem nodesD_srt {ss : List Spn} (hs : ss.Pairwise fun a b => a.id < b.id) (d : Nat) : (nodesD ss d).Pairwise fun a b => a.id < b.id := by
  unfold nodesD
  rw [List.pairwise_map]
  exact hs
theorem nodesD_ids (ss : List Spn) (d : Nat) : (nodesD ss d).map (·.id) = idsOf ss := by
  unfold nodesD idsOf
  rw [List.map_map]
  rfl
theorem chOf_is {ss : List Spn} (hs : ss.Pairwise fun a b => a.id < b.id) {d : Nat} {x : Int} (hx : x ∈ idsOf ss) : chOf (nodesD ss d) x = some (kidsF ss x) := by
  obtain ⟨s, hsm, rfl⟩ := List.mem_map.1 hx
  obtain ⟨k, hk⟩ := List.getElem?_of_mem hsm
  have hn : (nodesD ss d)[k]? = some ⟨s.id, s.pa, depN ss d s.id, kidsF ss s.id⟩ := by simp [nodesD, hk]
  have hf := fnd_at (nodesD_srt hs d) hn
  unfold chOf
  rw [show fnd (nodesD ss d) s.id = k from hf, hn]
  simp
theorem kids_ids {ss : List Spn} {p x : Int} (h : x ∈ kidsF ss p) : x ∈ idsOf ss := by
  obtain ⟨s, hs, rfl, _⟩ := mem_kids.1 h
  exact List.mem_map_of_mem hs
theorem Desc.head {ss : List Spn} {x c y : Int} (hc : c ∈ kidsF ss x) (h : Desc ss c y) : Desc ss x y := by
  induction h with
  | refl => exact .step .refl hc
  | step _ hz ih => exact .step ih hz
theorem okS_nil (nds : List Nd) : OkS nds [] := ⟨List.nodup_nil, by simp⟩
theorem Desc.ids {ss : List Spn} {x y : Int} (hx : x ∈ idsOf ss) (h : Desc ss x y) : y ∈ idsOf ss := by
  cases h with
  | refl => exact hx
  | step _ hz => exact kids_ids hz
end Go.Proofs.YtigenjeealkdlaaGreat
namespace Go.Proofs.YtigenjeealkdlaaGreat
open Go.RowKit Go.Exe
theorem ofS_len (l : List Spn) (t : Int) : (ofS l t).length ≤ l.length := by
  have h1 : (ofS l t).Nodup := (ofS_srt l t).imp fun {a b} h e => by subst e; omega
  exact h1.length_le_of_subset fun s h => (ofS_mem h).1
theorem fam_len (l : List Fm) (t : Int) : (ofS (famL l) t).length ≤ 12 := Nat.le_trans (ofS_len _ t) (famL_len l)
theorem fam_id (l : List Fm) (t : Int) : ∀ s ∈ ofS (famL l) t, I64 s.tr ∧ I64 s.id ∧ I64 s.pa := fun s h => fam_I l s (ofS_mem h).1
theorem famT_ch {ss : List Spn} (h : ∀ s ∈ ss, I64 s.id) (t : Int) : ∀ n ∈ (treeOf t ss).nds, ∀ c ∈ n.ch, I64 c := fun n hn c hc => by
  obtain ⟨s, hs, rfl⟩ := List.mem_map.1 hn
  obtain ⟨s', hs', rfl, _⟩ := mem_kids.1 hc
  exact h s' hs'
theorem treeOf_ok {ss : List Spn} (h : ss.Pairwise fun a b => a.id < b.id) (t : Int) : (treeOf t ss).nds.Pairwise fun a b => a.id < b.id := by
  unfold treeOf nodesD
  rw [List.pairwise_map]
  exact h
attribute [local irreducible] W AX Run RunD AStep AOp AOpX AStB AStH AStG Fits PCall GCall PostG Post Stop
end Go.Proofs.YtigenjeealkdlaaGreat
namespace Go.Proofs.YtigenjeealkdlaaGreat
open Go.RowKit Go.Exe
/-! ### the document's tree -/
def ndN (ss : List Spn) (id : Int) : Nat := (ss.takeWhile fun s => s.id != id).length
def parS (ss : List Spn) (id : Int) : Option Int := (ss[ndN ss id]?).map Spn.pa
def ndI (ss : List Spn) (id : Int) : Int := if ndN ss id < ss.length then (ndN ss id : Int) else -1
theorem ndN_at : ∀ {ss : List Spn} {id : Int} {s : Spn}, ss[ndN ss id]? = some s → s.id = id
  | [], id, s, h => by cases h
  | x :: r, id, s, h => by
    unfold ndN at h
    rw [List.takeWhile_cons] at h
    by_cases e : x.id = id
    · rw [if_neg (by simpa using e)] at h
      cases h
      exact e
    · rw [if_pos (by simpa using e), List.length_cons, List.getElem?_cons_succ] at h
      exact ndN_at (ss := r) h
theorem ndN_is : ∀ {ss : List Spn} {i : Nat} {s : Spn} {id : Int}, ss[i]? = some s → s.id = id → (∀ j x, j < i → ss[j]? = some x → x.id ≠ id) → ndN ss id = i
  | [], i, s, id, h, _, _ => by cases h
  | x :: r, 0, s, id, h, e, _ => by
    cases h
    unfold ndN
    rw [List.takeWhile_cons, if_neg (by simpa using e)]
    rfl
  | x :: r, i + 1, s, id, h, e, hl => by
    have h0 := hl 0 x (by omega) rfl
    have ih := ndN_is (ss := r) (i := i) h e (fun j y hj hy => hl (j + 1) y (by omega) hy)
    unfold ndN at ih ⊢
    rw [List.takeWhile_cons, if_pos (by simpa using h0), List.length_cons, ih]
theorem ndN_out : ∀ {ss : List Spn} {id : Int}, (∀ s ∈ ss, s.id ≠ id) → ndN ss id = ss.length
  | [], id, _ => rfl
  | x :: r, id, h => by
    have ih := ndN_out (ss := r) (id := id) fun s hs => h s (by simp [hs])
    unfold ndN at ih ⊢
    rw [List.takeWhile_cons, if_pos (by simpa using h x (by simp)), List.length_cons, List.length_cons, ih]
theorem ndN_in {ss : List Spn} {id : Int} (h : id ∈ idsOf ss) : ndN ss id < ss.length := by
  rcases Nat.lt_or_ge (ndN ss id) ss.length with h1 | h1
  · exact h1
  · exfalso
    obtain ⟨s, hs, rfl⟩ := List.mem_map.1 h
    have h2 : ss.takeWhile (fun x => x.id != s.id) = ss := (List.takeWhile_sublist _).eq_of_length_le h1
    have h3 : s ∈ ss.takeWhile (fun x => x.id != s.id) := by rw [h2]; exact hs
    have := mem_tw h3
    simp at this
theorem ndN_mem {ss : List Spn} {id : Int} (h : ndN ss id < ss.length) : id ∈ idsOf ss := by
  have h1 := List.getElem?_eq_getElem h
  have h2 := ndN_at h1
  exact h2 ▸ List.mem_map_of_mem (List.mem_of_getElem? h1)
theorem parS_some {ss : List Spn} {id p : Int} (h : parS ss id = some p) : ∃ s, ss[ndN ss id]? = some s ∧ s.id = id ∧ s.pa = p := by
  unfold parS at h
  rw [Option.map_eq_some_iff] at h
  obtain ⟨s, h1, h2⟩ := h
  exact ⟨s, h1, ndN_at h1, h2⟩
theorem parS_none {ss : List Spn} {id : Int} (h : parS ss id = none) : id ∉ idsOf ss := fun hm => by
  unfold parS at h
  rw [List.getElem?_eq_getElem (ndN_in hm)] at h
  cases h
theorem parS_out {ss : List Spn} {id : Int} (h : id ∉ idsOf ss) : parS ss id = none := by
  unfold parS
  rw [List.getElem?_eq_none]
  · rfl
  · rcases Nat.lt_or_ge (ndN ss id) ss.length with h1 | h1
    · exact absurd (ndN_mem h1) h
    · exact h1
theorem parS_in {ss : List Spn} (hn : (idsOf ss).Nodup) {s : Spn} (h : s ∈ ss) : parS ss s.id = some s.pa := by
  cases hp : parS ss s.id with
  | none => exact absurd (List.mem_map_of_mem h) (parS_none hp)
  | some p =>
    obtain ⟨s', h1, h2, h3⟩ := parS_some hp
    obtain rfl := id_uni hn (List.mem_of_getElem? h1) h h2
    rw [h3]
/-- The ancestors, out of the parents. -/
def ancG (par : Int → Option Int) : Nat → Int → List Int → List Int
  | 0, _, out => out
  | k + 1, id, out => match par id with
    | none => out
    | some p => if p = 0 ∨ p ∈ out then out else match par p with
      | none => out
      | some _ => ancG par k p (out ++ [p])
theorem ancF_G (nds : List Nd) : ∀ (k : Nat) (id : Int) (out : List Int), ancF nds k id out = ancG (parOf nds) k id out
  | 0, _, _ => rfl
  | k + 1, id, out => by
    unfold ancF ancG
    cases parOf nds id with
    | none => rfl
    | some p =>
      dsimp only
      split
      · rfl
      · cases parOf nds p with
        | none => rfl
        | some _ => exact ancF_G nds k p _
theorem parOf_is {ss : List Spn} (hs : ss.Pairwise fun a b => a.id < b.id) (d : Nat) (id : Int) : parOf (nodesD ss d) id = parS ss id := by
  by_cases hm : id ∈ idsOf ss
  · obtain ⟨s, hsm, rfl⟩ := List.mem_map.1 hm
    obtain ⟨k, hk⟩ := List.getElem?_of_mem hsm
    have hn : (nodesD ss d)[k]? = some ⟨s.id, s.pa, depN ss d s.id, kidsF ss s.id⟩ := by simp [nodesD, hk]
    have hf := fnd_at (nodesD_srt hs d) hn
    unfold parOf
    rw [show fnd (nodesD ss d) s.id = k from hf, hn, parS_in (nodup_sorted hs) hsm]
    simp
  · rw [parS_out hm]
    cases hp : parOf (nodesD ss d) id with
    | none => rfl
    | some p =>
      obtain ⟨n, h1, h2, _⟩ := parOf_at hp
      refine absurd ?_ hm
      rw [← nodesD_ids ss d, ← h2]
      exact List.mem_map_of_mem (f := Nd.id) (List.mem_of_getElem? h1)
/-- The document's ancestors. -/
def ancS (ss : List Spn) (id : Int) : List Int := ancG (parS ss) (ss.length + 1) id []
theorem ancS_T {ss : List Spn} (hs : ss.Pairwise fun a b => a.id < b.id) (d : Nat) (id : Int) : ancT (nodesD ss d) id = ancS ss id := by
  unfold ancT ancS
  rw [ancF_G, nodesD_len, show parOf (nodesD ss d) = parS ss from funext (parOf_is hs d)]
/-- The document's children. -/
def chM (ss : List Spn) (p : Int) : List Int := (ss.filter fun s => s.pa == p).map Spn.id
theorem chM_is {ss : List Spn} {p : Int} (h : p ≠ 0) : chM ss p = kidsF ss p := by
  unfold chM kidsF kidsN
  rw [List.take_length]
  congr 1
  refine List.filter_congr fun s _ => ?_
  by_cases e : s.pa = p
  · subst e; simp [h]
  · simp [e]
theorem ndI_neg {ss : List Spn} {p : Int} : ndI ss p < 0 ↔ p ∉ idsOf ss := by
  unfold ndI
  by_cases h : ndN ss p < ss.length
  · rw [if_pos h]
    exact ⟨fun h1 => by omega, fun h1 => absurd (ndN_mem h) h1⟩
  · rw [if_neg h]
    exact ⟨fun _ hm => h (ndN_in hm), fun _ => by omega⟩
theorem srtI_mem {l : List Int} {y : Int} : y ∈ srtI l ↔ y ∈ l := (List.mergeSort_perm l _).mem_iff
end Go.Proofs.YtigenjeealkdlaaGreat
namespace Go.Proofs.YtigenjeealkdlaaGreat
open Go.RowKit Go.Exe
attribute [local irreducible] W AX Run RunD AStep AOp AOpX AStB AStH AStG Fits PCall GCall PostG Post Stop
theorem node22_c (ss : List Spn) (id : Int) : PCall Tryz.prog 22 [spsT ss, ft (.int .i64 id)] (ft (.int .i64 (ndI ss id))) := by
  refine PCall.intro (nt := 20) (rs := [.tmp 4]) Tryz.func22 rfl ⟨by kernel_rfl, by kernel_rfl, by kernel_rfl⟩ (by simp) ?_
  rintro ⟨P, w0, ok0, may, np, pblk⟩ rfl rfl
  refine W.lenB 0 rfl tE88 fun hl0 hl1 => ?_
  rw [List.length_map] at hl1
  repeat' (first | refine W.seq fun K hK => ?_ | refine W.block ?_ | ((first | refine wR ?_ | refine wD ?_ | refine W.skip ?_ | refine W.exit ?_ | refine W.ret (Post.ret ?_) | refine aP ?_ | refine aF ?_); simp only [go_sem, reduceCtorEq]) | refine wT ?_ | refine wF ?_ | refine wC (fun h => ?_) (fun h => ?_) | refine iK ?_ | refine aI2 ?_ | (refine hK _ ?_; clear hK K) | clear hK K)
  refine W.loopF (T := fun i : Nat => { t := [(0, spsT ss), (1, ft (.int .i64 id)), (5, ft (.int .i64 (i : Nat)))], h := [], nx := 0, ex := [], nt := 20 })
    (Inv := fun i => i ≤ ss.length ∧ ∀ j x, j < i → ss[j]? = some x → x.id ≠ id) (μ := fun i => ss.length - i) (x0 := 0) ?_ ⟨Nat.zero_le _, fun j x h => by omega⟩ ?_
  · refine Fits.fit [] [0, 1, 5] 0 rfl rfl ?_
    simp only [go_sem]
    exact Fits.rfl
  rintro i ⟨hi, hlo⟩ KL hKL
  by_cases hlt : i < ss.length
  · obtain ⟨s, hs, hm, _⟩ := drop_at hlt
    have e1 : decide ((i : Int) < ss.length) = true := by simp; omega
    have e2 : decide (i < ss.length) = true := by simp; omega
    have hw := w64s i (by omega)
    cases h1 : (s.id == id) with
    | true =>
      have e : s.id = id := by simpa using h1
      have hn : ndI ss id = (i : Int) := by
        have := ndN_is hs e hlo
        unfold ndI
        rw [this, if_pos hlt]
      clear hKL
      repeat' (first | refine W.seq fun K hK => ?_ | refine W.block ?_ | ((first | refine wR ?_ | refine wD ?_ | refine W.skip ?_ | refine W.exit ?_ | refine W.ret (Post.ret ?_) | refine aP ?_ | refine aF ?_); simp only [go_sem, reduceCtorEq, List.getElem?_map, hs, spA, e1, e2, h1, List.length_map]) | refine wT ?_ | refine wF ?_ | refine wC (fun h => ?_) (fun h => ?_) | refine iK ?_ | refine aI2 ?_ | (refine hK _ ?_; clear hK K) | clear hK K)
      rw [hn]
    | false =>
      repeat' (first | refine W.seq fun K hK => ?_ | refine W.block ?_ | ((first | refine wR ?_ | refine wD ?_ | refine W.skip ?_ | refine W.exit ?_ | refine W.ret (Post.ret ?_) | refine aP ?_ | refine aF ?_); simp only [go_sem, reduceCtorEq, List.getElem?_map, hs, spA, e1, e2, h1, hw, List.length_map]) | refine wT ?_ | refine wF ?_ | refine wC (fun h => ?_) (fun h => ?_) | refine iK ?_ | refine aI2 ?_ | (refine hK _ ?_; clear hK K) | clear hK K)
      refine hKL.to (i + 1) ⟨by omega, fun j x hj hx => ?_⟩ (by omega) ?_
      · by_cases e : j = i
        · subst e
          rw [hs] at hx
          cases hx
          simpa using h1
        · exact hlo j x (by omega) hx
      · refine Fits.fit [] [0, 1, 5] 0 rfl rfl ?_
        simp only [go_sem]
        exact Fits.rfl
  · obtain rfl : i = ss.length := by omega
    have e1 : decide ((ss.length : Int) < ss.length) = false := by simp
    have hn : ndI ss id = -1 := by
      have : ndN ss id = ss.length := ndN_out fun s hs => by
        obtain ⟨j, hj⟩ := List.getElem?_of_mem hs
        exact hlo j s (List.getElem?_eq_some_iff.1 hj).1 hj
      unfold ndI
      rw [this, if_neg (by omega)]
    clear hKL
    repeat' (first | refine W.seq fun K hK => ?_ | refine W.block ?_ | ((first | refine wR ?_ | refine wD ?_ | refine W.skip ?_ | refine W.exit ?_ | refine W.ret (Post.ret ?_) | refine aP ?_ | refine aF ?_); simp only [go_sem, reduceCtorEq, e1, List.length_map]) | refine wT ?_ | refine wF ?_ | refine wC (fun h => ?_) (fun h => ?_) | refine iK ?_ | refine aI2 ?_ | (refine hK _ ?_; clear hK K) | clear hK K)
    rw [hn]
theorem children_c (ss : List Spn) (p : Int) (hlen : ss.length ≤ 1000000) : PCall Tryz.prog 24 [spsT ss, ft (.int .i64 p)] (intsT (chM ss p)) := by
  refine PCall.intro (nt := 29) (rs := [.tmp 4]) Tryz.func24 rfl ⟨by kernel_rfl, by kernel_rfl, by kernel_rfl⟩ (by simp) ?_
  rintro ⟨P, w0, ok0, may, np, pblk⟩ rfl rfl
  repeat' (first | refine W.seq fun K hK => ?_ | refine W.block ?_ | ((first | refine wR ?_ | refine wD ?_ | refine W.skip ?_ | refine W.exit ?_ | refine W.ret (Post.ret ?_) | refine aP ?_ | refine aF ?_); simp only [go_sem, reduceCtorEq]) | refine wT ?_ | refine wF ?_ | refine wC (fun h => ?_) (fun h => ?_) | refine iK ?_ | refine aI2 ?_ | (refine hK _ ?_; clear hK K) | clear hK K)
  refine W.loopF (T := fun i : Nat => { t := [(0, spsT ss), (1, ft (.int .i64 p)), (5, .c (.ref 0)), (6, ft (.int .i64 (i : Nat)))], h := [(0, .row 3 (imR ((chM (ss.take i) p).map iA)))], nx := 1, ex := [], nt := 29 })
    (Inv := fun i => i ≤ ss.length) (μ := fun i => ss.length - i) (x0 := 0) ?_ (Nat.zero_le _) ?_
  · refine Fits.adopt 5 900 3 rfl rfl rfl tE3 rfl ?_
    refine Fits.fit [(900, 0)] [0, 1, 5, 6] 1 rfl rfl ?_
    simp only [go_sem]
    exact Fits.rfl
  rintro i hi KL hKL
  by_cases hlt : i < ss.length
  · obtain ⟨s, hs, hm, _⟩ := drop_at hlt
    have e1 : decide ((i : Int) < ss.length) = true := by simp; omega
    have e2 : decide (i < ss.length) = true := by simp; omega
    have hw := w64s i (by omega)
    have ht : chM (ss.take (i + 1)) p = chM (ss.take i) p ++ if s.pa == p then [s.id] else [] := by
      rw [List.take_add_one, hs]
      unfold chM
      rw [List.filter_append, List.map_append]
      cases h : (s.pa == p) <;> simp [h]
    have hcl : (chM (ss.take i) p).length ≤ i := by
      unfold chM
      rw [List.length_map]
      have := List.length_filter_le (fun s : Spn => s.pa == p) (ss.take i)
      rw [List.length_take] at this
      omega
    have hKL2 := fun (s' : St) h => hKL.to (s' := s') (i + 1) (by omega) (by omega) h
    rw [ht] at hKL2
    clear hKL ht
    generalize chM (ss.take i) p = out at *
    cases h1 : (s.pa == p) with
    | true =>
      have b1 : (out.length + 1) * 8 ≤ 140737488355328 := by omega
      rw [h1] at hKL2
      repeat' (first | refine W.seq fun K hK => ?_ | refine W.block ?_ | ((first | refine wR ?_ | refine wD ?_ | refine W.skip ?_ | refine W.exit ?_ | refine W.ret (Post.ret ?_) | refine aP ?_ | refine aF ?_); simp only [go_sem, reduceCtorEq, List.getElem?_map, hs, spA, e1, e2, h1, hw, b1, List.length_map, imR_len]) | refine wT ?_ | refine wF ?_ | refine wC (fun h => ?_) (fun h => ?_) | refine iK ?_ | refine aI2 ?_ | (refine hK _ ?_; clear hK K) | clear hK K)
      refine hKL2 _ (Fits.fit [(19, 0)] [0, 1, 5, 6] 1 rfl rfl ?_)
      simp only [go_sem, imR_snocI, if_true]
      exact Fits.rfl
    | false =>
      rw [h1] at hKL2
      repeat' (first | refine W.seq fun K hK => ?_ | refine W.block ?_ | ((first | refine wR ?_ | refine wD ?_ | refine W.skip ?_ | refine W.exit ?_ | refine W.ret (Post.ret ?_) | refine aP ?_ | refine aF ?_); simp only [go_sem, reduceCtorEq, List.getElem?_map, hs, spA, e1, e2, h1, hw, List.length_map]) | refine wT ?_ | refine wF ?_ | refine wC (fun h => ?_) (fun h => ?_) | refine iK ?_ | refine aI2 ?_ | (refine hK _ ?_; clear hK K) | clear hK K)
      refine hKL2 _ (Fits.fit [(0, 0)] [0, 1, 5, 6] 1 rfl rfl ?_)
      simp only [go_sem, Bool.false_eq_true, if_false, List.append_nil]
      exact Fits.rfl
  · obtain rfl : i = ss.length := by omega
    have e1 : decide ((ss.length : Int) < ss.length) = false := by simp
    rw [List.take_length]
    clear hKL
    repeat' (first | refine W.seq fun K hK => ?_ | refine W.block ?_ | ((first | refine wR ?_ | refine wD ?_ | refine W.skip ?_ | refine W.exit ?_ | refine W.ret (Post.ret ?_) | refine aP ?_ | refine aF ?_); simp only [go_sem, reduceCtorEq, e1, List.length_map]) | refine wT ?_ | refine wF ?_ | refine wC (fun h => ?_) (fun h => ?_) | refine iK ?_ | refine aI2 ?_ | (refine hK _ ?_; clear hK K) | clear hK K)
theorem ndI_at {ss : List Spn} {id : Int} (h : ndN ss id < ss.length) : ndI ss id = (ndN ss id : Int) := by unfold ndI; rw [if_pos h]
theorem ndI_no {ss : List Spn} {id : Int} (h : parS ss id = none) : ndI ss id = -1 := by
  unfold ndI
  rw [if_neg fun h1 => parS_none h (ndN_mem h1)]
theorem ancestors26_c (ss : List Spn) (id : Int) (hlen : ss.length ≤ 1000000) : PCall Tryz.prog 26 [spsT ss, ft (.int .i64 id)] (intsT (ancS ss id)) := by
  have cn := fun i => node22_c ss i
  have ch := has_c
  have c1 := cn id
  refine PCall.intro (nt := 47) (rs := [.tmp 4]) Tryz.func26 rfl ⟨by kernel_rfl, by kernel_rfl, by kernel_rfl⟩ (by simp) ?_
  rintro ⟨P, w0, ok0, may, np, pblk⟩ rfl rfl
  repeat' (first | refine W.seq fun K hK => ?_ | refine W.block ?_ | ((first | refine wR ?_ | refine wD ?_ | refine W.skip ?_ | refine W.exit ?_ | refine W.ret (Post.ret ?_) | refine aP ?_ | refine aF ?_); simp only [go_sem, reduceCtorEq]) | refine wT ?_ | refine wF ?_ | refine wC (fun h => ?_) (fun h => ?_) | refine iK ?_ | refine aI2 ?_ | (refine hK _ ?_; clear hK K) | clear hK K)
  clear c1
  refine W.loopF (T := fun x : Nat × Int × List Int => { t := [(0, spsT ss), (5, .c (.ref 0)), (6, ft (.int .i64 (ndI ss x.2.1)))], h := [(0, .row 3 (imR (x.2.2.map iA)))], nx := 1, ex := [], nt := 47 })
    (Inv := fun x => x.2.2.Nodup ∧ (∀ y ∈ x.2.2, y ∈ idsOf ss) ∧ (x.1 = 0 → ss.length < x.2.2.length) ∧ ss.length < x.1 + x.2.2.length ∧ ancG (parS ss) x.1 x.2.1 x.2.2 = ancS ss id) (μ := fun x => x.1) (x0 := (ss.length + 1, id, [])) ?_ ⟨List.nodup_nil, by simp, by simp, by simp, rfl⟩ ?_
  · refine Fits.adopt 5 900 3 rfl rfl rfl tE3 rfl ?_
    refine Fits.fit [(900, 0)] [0, 5, 6] 1 rfl rfl ?_
    simp only [go_sem, List.map_nil, imR_nil]
    exact Fits.rfl
  rintro ⟨k, c, out⟩ ⟨hnd, hsub, _, hfu, hR⟩ KL hKL
  dsimp only at hnd hsub hfu hR ⊢
  have hol := hnd.length_le_of_subset hsub
  rw [show (idsOf ss).length = ss.length by simp [idsOf]] at hol
  cases k with
  | zero => omega
  | succ k =>
  rw [ancG] at hR
  cases hp : parS ss c with
  | none =>
    have g1 : decide ((-1 : Int) ≥ 0) = false := by decide
    rw [hp] at hR
    dsimp only at hR
    clear hKL cn ch
    rw [ndI_no hp]
    repeat' (first | refine W.seq fun K hK => ?_ | refine W.block ?_ | ((first | refine wR ?_ | refine wD ?_ | refine W.skip ?_ | refine W.exit ?_ | refine W.ret (Post.ret ?_) | refine aP ?_ | refine aF ?_); simp only [go_sem, reduceCtorEq, g1]) | refine wT ?_ | refine wF ?_ | refine wC (fun h => ?_) (fun h => ?_) | refine iK ?_ | refine aI2 ?_ | (refine hK _ ?_; clear hK K) | clear hK K)
    rw [hR]
  | some p =>
    obtain ⟨s, hs, hid, rfl⟩ := parS_some hp
    rw [hp] at hR
    dsimp only at hR
    have hlt := (List.getElem?_eq_some_iff.1 hs).1
    have g1 : decide (((ndN ss c : Nat) : Int) ≥ 0) = true := by simp
    have g2 : decide (ndN ss c < ss.length) = true := by simp [hlt]
    have c2 := cn s.pa
    clear cn
    rw [ndI_at hlt]
    cases h0 : (s.pa == 0) with
    | true =>
      have h0' : s.pa = 0 := by simpa using h0
      have g3 : (s.pa != 0) = false := by simp [h0']
      rw [if_pos (.inl h0')] at hR
      clear hKL c2 ch
      repeat' (first | refine W.seq fun K hK => ?_ | refine W.block ?_ | ((first | refine wR ?_ | refine wD ?_ | refine W.skip ?_ | refine W.exit ?_ | refine W.ret (Post.ret ?_) | refine aP ?_ | refine aF ?_); simp only [go_sem, reduceCtorEq, List.getElem?_map, hs, spA, g1, g2, g3, List.length_map]) | refine wT ?_ | refine wF ?_ | refine wC (fun h => ?_) (fun h => ?_) | refine iK ?_ | refine aI2 ?_ | (refine hK _ ?_; clear hK K) | clear hK K)
      rw [hR]
    | false =>
      have h0' : ¬ s.pa = 0 := by simpa using h0
      have g3 : (s.pa != 0) = true := by simp [h0']
      cases hq : parS ss s.pa with
      | none =>
        have g4 : decide ((-1 : Int) < 0) = true := by decide
        have hR2 : out = ancS ss id := by
          rw [← hR, hq]
          split <;> rfl
        rw [ndI_no hq] at c2
        clear hKL ch
        repeat' (first | refine W.seq fun K hK => ?_ | refine W.block ?_ | ((first | refine wR ?_ | refine wD ?_ | refine W.skip ?_ | refine W.exit ?_ | refine W.ret (Post.ret ?_) | refine aP ?_ | refine aF ?_); simp only [go_sem, reduceCtorEq, List.getElem?_map, hs, spA, g1, g2, g3, g4, List.length_map]) | refine wT ?_ | refine wF ?_ | refine wC (fun h => ?_) (fun h => ?_) | refine iK ?_ | refine aI2 ?_ | (refine hK _ ?_; clear hK K) | clear hK K)
        rw [hR2]
      | some q =>
        obtain ⟨s2, hs2, hid2, rfl⟩ := parS_some hq
        have hlt2 := (List.getElem?_eq_some_iff.1 hs2).1
        have g4 : decide (((ndN ss s.pa : Nat) : Int) < 0) = false := by simp
        have g5 : decide (ndN ss s.pa < ss.length) = true := by simp [hlt2]
        rw [ndI_at hlt2] at c2
        have c3 := ch out s2.id
        clear ch
        rw [hid2] at c3
        cases h1 : out.contains s.pa with
        | true =>
          have h1' : s.pa ∈ out := List.contains_iff_mem.1 h1
          rw [if_pos (.inr h1')] at hR
          rw [h1] at c3
          clear hKL
          repeat' (first | refine W.seq fun K hK => ?_ | refine W.block ?_ | ((first | refine wR ?_ | refine wD ?_ | refine W.skip ?_ | refine W.exit ?_ | refine W.ret (Post.ret ?_) | refine aP ?_ | refine aF ?_); simp only [go_sem, reduceCtorEq, List.getElem?_map, hs, hs2, hid2, spA, g1, g2, g3, g4, g5, List.length_map]) | refine wT ?_ | refine wF ?_ | refine wC (fun h => ?_) (fun h => ?_) | refine iK ?_ | refine aI2 ?_ | (refine hK _ ?_; clear hK K) | clear hK K)
          rw [hR]
        | false =>
          have h1' : ¬ s.pa ∈ out := fun h => by rw [List.contains_iff_mem.2 h] at h1; cases h1
          rw [if_neg (fun h => h.elim h0' h1'), hq] at hR
          dsimp only at hR
          rw [h1] at c3
          have b1 : (out.length + 1) * 8 ≤ 140737488355328 := by omega
          repeat' (first | refine W.seq fun K hK => ?_ | refine W.block ?_ | ((first | refine wR ?_ | refine wD ?_ | refine W.skip ?_ | refine W.exit ?_ | refine W.ret (Post.ret ?_) | refine aP ?_ | refine aF ?_); simp only [go_sem, reduceCtorEq, List.getElem?_map, hs, hs2, hid2, spA, g1, g2, g3, g4, g5, b1, List.length_map, imR_len]) | refine wT ?_ | refine wF ?_ | refine wC (fun h => ?_) (fun h => ?_) | refine iK ?_ | refine aI2 ?_ | (refine hK _ ?_; clear hK K) | clear hK K)
          have hm2 : s.pa ∈ idsOf ss := ndN_mem hlt2
          refine hKL.to (k, s.pa, out ++ [s.pa]) ⟨List.nodup_append.2 ⟨hnd, by simp, fun a ha b hb e => by simp at hb; subst hb; exact h1' (e ▸ ha)⟩, fun y hy => ?_, fun _ => ?_, by rw [List.length_append, List.length_singleton]; omega, hR⟩ (Nat.lt_succ_self k) (Fits.fit [(37, 0)] [0, 5, 6] 1 rfl rfl ?_)
          · rcases List.mem_append.1 hy with hy | hy
            · exact hsub y hy
            · obtain rfl : y = s.pa := by simpa using hy
              exact hm2
          · rw [List.length_append, List.length_singleton]; omega
          · simp only [go_sem, imR_snocI, ndI_at hlt2]
            exact Fits.rfl
theorem ancG_ids {ss : List Spn} : ∀ (k : Nat) (x : Int) (out : List Int), (∀ y ∈ out, y ∈ idsOf ss) → ∀ y ∈ ancG (parS ss) k x out, y ∈ idsOf ss
  | 0, _, _, h => h
  | k + 1, x, out, h => by
    unfold ancG
    cases parS ss x with
    | none => exact h
    | some p =>
      dsimp only
      split
      · exact h
      · cases hq : parS ss p with
        | none => exact h
        | some q =>
          refine ancG_ids k p (out ++ [p]) fun y hy => ?_
          rcases List.mem_append.1 hy with hy | hy
          · exact h y hy
          · obtain rfl : y = p := by simpa using hy
            obtain ⟨s, h1, h2, _⟩ := parS_some hq
            exact ndN_mem (List.getElem?_eq_some_iff.1 h1).1
theorem ancG_nodup {ss : List Spn} : ∀ (k : Nat) (x : Int) (out : List Int), out.Nodup → (ancG (parS ss) k x out).Nodup
  | 0, _, _, h => h
  | k + 1, x, out, h => by
    unfold ancG
    cases parS ss x with
    | none => exact h
    | some p =>
      dsimp only
      split
      · exact h
      · rename_i hn
        cases hq : parS ss p with
        | none => exact h
        | some q => exact ancG_nodup k p (out ++ [p]) (List.nodup_append.2 ⟨h, by simp, fun a ha b hb e => by simp at hb; subst hb; exact hn (.inr (e ▸ ha))⟩)
theorem ancS_ids {ss : List Spn} {id y : Int} (h : y ∈ ancS ss id) : y ∈ idsOf ss := ancG_ids _ _ _ (by simp) y h
theorem ancS_len (ss : List Spn) (id : Int) : (ancS ss id).length ≤ ss.length := by
  have h1 : (ancS ss id).Nodup := ancG_nodup _ _ _ List.nodup_nil
  have := h1.length_le_of_subset fun y h => ancS_ids h
  rwa [show (idsOf ss).length = ss.length by simp [idsOf]] at this
end Go.Proofs.YtigenjeealkdlaaGreat
namespace Go.Proofs.YtigenjeealkdlaaGreat
open Go.RowKit Go.Exe
attribute [local irreducible] W AX Run RunD AStep AOp AOpX AStB AStH AStG Fits PCall GCall PostG Post Stop
end Go.Proofs.YtigenjeealkdlaaGreat
namespace Go.Proofs.YtigenjeealkdlaaGreat
open Go.RowKit Go.Exe
/-! ### trees are compared -/
abbrev trB (t : Tr) : List Cell := [.im (.flat (.int .i64 t.tr)), .im (.sl 35 (t.nds.map ndA)), .im (.sl 3 (t.roots.map iA)), .im (.sl 3 (t.orph.map iA)), .im (.sl 3 (t.cyc.map iA)), .im (.sl 3 (t.miss.map iA))]
attribute [local irreducible] W AX Run RunD AStep AOp AOpX AStB AStH AStG Fits PCall GCall PostG Post Stop
end Go.Proofs.YtigenjeealkdlaaGreat
namespace Go.Proofs.YtigenjeealkdlaaGreat
open Go.RowKit Go.Exe
theorem fam_id0 (l : List Fm) (t : Int) : ∀ s ∈ ofS (famL l) t, s.id ≠ 0 := fun s hs => by
  obtain ⟨q, _, rfl⟩ := famL_mem (ofS_mem hs).1
  show ((1 + q.2.1 % 6 : Nat) : Int) ≠ 0
  omega
theorem fam_build0 (c144 : SortC Tryz.prog 144 14) (c85 : SortI Tryz.prog 85) (g84 : GrowC Tryz.prog 84 3 1 8) (l : List Fm) (t : Int) : PCall Tryz.prog 13 [spsT (famL l), ft (.int .i64 t)] (trT (treeOf t (ofS (famL l) t))) :=
  build_c c144 c85 g84 (famL l) t (nodup_sorted (ofS_srt _ _)) (fun s hs => (fam_id l t s hs).2)
attribute [local irreducible] W AX Run RunD AStep AOp AOpX AStB AStH AStG Fits PCall GCall PostG Post Stop
end Go.Proofs.YtigenjeealkdlaaGreat
namespace Go.Proofs.YtigenjeealkdlaaGreat
open Go.RowKit Go.Exe
/-! ### assembly.Equal -/
attribute [local irreducible] W AX Run RunD AStep AOp AOpX AStB AStH AStG Fits PCall GCall PostG Post Stop
end Go.Proofs.YtigenjeealkdlaaGreat
namespace Go.Proofs.YtigenjeealkdlaaGreat
open Go.RowKit Go.Exe
/-! ### what an assembler holds -/
theorem orA {a b : Prop} : a ∨ b ↔ a ∨ a ∨ b := ⟨fun h => h.elim .inl (fun h => .inr (.inr h)), fun h => h.elim .inl id⟩
theorem recs_putK (m : RM) (s : Spn) (t : Int) : recs (putK m s) t = recs m t ++ if s.tr = t then [s] else [] := by
  unfold recs
  rw [getK_put]
  split <;> simp
theorem recs_kmN (l : List Spn) (t : Int) : recs (kmN l l.length) t = trF l t := by
  have key : ∀ (l : List Spn) (m : RM), recs (l.foldl putK m) t = recs m t ++ trF l t := by
    intro l
    induction l with
    | nil => intro m; simp [trF]
    | cons s r ih =>
      intro m
      rw [List.foldl_cons, ih, recs_putK, List.append_assoc]
      congr 1
      unfold trF
      rw [List.filter_cons]
      by_cases e : s.tr = t
      · simp [e]
      · simp [e]
  unfold kmN
  rw [List.take_length, key]
  rfl
theorem trF_set (l : List Spn) (t : Int) : trF (setS l) t = setS (trF l t) := by
  refine lt_uni ?_ (setS_lt _) fun s => ?_
  · exact (setS_lt l).sublist List.filter_sublist
  · rw [mem_trF, mem_setS, mem_setS, mem_trF]
theorem recs_more (l : List Spn) (t : Int) : recs (moreR l) t = setS (trF l t) := by
  unfold moreR
  rw [recs_kmN, trF_set]
theorem putK_key (m : RM) (s : Spn) (t : Int) : t ∈ (putK m s).map (·.1) ↔ t = s.tr ∨ t ∈ m.map (·.1) := by
  induction m with
  | nil => simp [putK]
  | cons y r ih =>
    unfold putK
    by_cases e : y.1 = s.tr
    · rw [if_pos e]; simp only [List.map_cons, List.mem_cons, e]; exact orA
    · rw [if_neg e]; simp only [List.map_cons, List.mem_cons, ih]; exact or_left_comm
theorem more_key (l : List Spn) (t : Int) : t ∈ (moreR l).map (·.1) ↔ ∃ s ∈ l, s.tr = t := by
  have key : ∀ (l : List Spn) (m : RM), t ∈ (l.foldl putK m).map (·.1) ↔ t ∈ m.map (·.1) ∨ ∃ s ∈ l, s.tr = t := by
    intro l
    induction l with
    | nil => intro m; simp
    | cons s r ih =>
      intro m
      rw [List.foldl_cons, ih, putK_key]
      simp only [List.mem_cons, exists_eq_or_imp]
      constructor
      · rintro ((h | h) | h)
        · exact .inr (.inl h.symm)
        · exact .inl h
        · exact .inr (.inr h)
      · rintro (h | h | h)
        · exact .inl (.inr h)
        · exact .inl (.inl h.symm)
        · exact .inr h
  unfold moreR kmN
  rw [List.take_length, key]
  simp only [List.map_nil, List.not_mem_nil, false_or]
  exact ⟨fun ⟨s, hs, e⟩ => ⟨s, mem_setS.1 hs, e⟩, fun ⟨s, hs, e⟩ => ⟨s, mem_setS.2 hs, e⟩⟩
theorem getK_putR (m : RM) (k : Int) (l : List Spn) (t : Int) : getK (putR m k l) t = if k = t then some l else getK m t := by
  induction m with
  | nil => simp [putR, getK]
  | cons y r ih =>
    unfold putR
    by_cases e : y.1 = k
    · rw [if_pos e]
      simp only [getK]
      by_cases e2 : y.1 = t
      · rw [if_pos e2, if_pos (e ▸ e2)]
      · rw [if_neg e2, if_neg (fun h => e2 (e.trans h)), if_neg e2]
    · rw [if_neg e]
      simp only [getK, ih]
      by_cases e2 : y.1 = t
      · rw [if_pos e2, if_neg (fun h => e (e2.trans h.symm)), if_pos e2]
      · rw [if_neg e2, if_neg e2]
theorem recs_putR (m : RM) (k : Int) (l : List Spn) (t : Int) : recs (putR m k l) t = if k = t then l else recs m t := by
  unfold recs
  rw [getK_putR]
  split <;> rfl
theorem putR_key (m : RM) (k : Int) (l : List Spn) (t : Int) : t ∈ (putR m k l).map (·.1) ↔ t = k ∨ t ∈ m.map (·.1) := by
  induction m with
  | nil => simp [putR]
  | cons y r ih =>
    unfold putR
    by_cases e : y.1 = k
    · rw [if_pos e]; simp only [List.map_cons, List.mem_cons, e]; exact orA
    · rw [if_neg e]; simp only [List.map_cons, List.mem_cons, ih]; exact or_left_comm
theorem nowR_eq {l : List Spn} {m n : RM} {t : Int} (h : recs m t = recs n t) : nowR l m t = nowR l n t := by unfold nowR; rw [h]
theorem chgR_eq {l : List Spn} {m n : RM} {t : Int} (h : recs m t = recs n t) : chgR l m t = chgR l n t := by unfold chgR; rw [nowR_eq h, h]
theorem addS_fold (l : List Spn) (m0 : RM) : ∀ (ks : List Int) (m : RM) (out : List Int), ks.Nodup → (∀ t ∈ ks, recs m t = recs m0 t) →
    (∀ t, recs (ks.foldl (addS l) (m, out)).1 t = if t ∈ ks then nowR l m0 t else recs m t) ∧ (∀ t, t ∈ (ks.foldl (addS l) (m, out)).1.map (·.1) ↔ t ∈ ks ∨ t ∈ m.map (·.1)) ∧
    ((m.map (·.1)).Nodup → ((ks.foldl (addS l) (m, out)).1.map (·.1)).Nodup) ∧ (ks.foldl (addS l) (m, out)).2 = out ++ ks.filter (chgR l m0)
  | [], m, out, _, _ => ⟨fun t => by simp, fun t => by simp, fun h => h, by simp⟩
  | k :: r, m, out, hn, he => by
    obtain ⟨hk, hr⟩ := List.nodup_cons.1 hn
    have e0 := he k (by simp)
    have hx : addS l (m, out) k = (putR m k (nowR l m0 k), if chgR l m0 k then out ++ [k] else out) := by
      unfold addS
      rw [nowR_eq e0, chgR_eq e0]
    obtain ⟨h1, h2, h3, h4⟩ := addS_fold l m0 r (putR m k (nowR l m0 k)) (if chgR l m0 k then out ++ [k] else out) hr (fun t ht => by
      rw [recs_putR, if_neg (fun e : k = t => hk (by rw [e]; exact ht))]
      exact he t (by simp [ht]))
    rw [List.foldl_cons, hx]
    refine ⟨fun t => ?_, fun t => ?_, fun h => h3 (putR_keys h), ?_⟩
    · rw [h1, recs_putR]
      by_cases a : t ∈ r
      · rw [if_pos a, if_pos (by simp [a])]
      · rw [if_neg a]
        by_cases b : k = t
        · rw [if_pos b, if_pos (by simp [b]), b]
        · rw [if_neg b, if_neg (by simp only [List.mem_cons, not_or]; exact ⟨fun e => b e.symm, a⟩)]
    · rw [h2, putR_key]
      simp only [List.mem_cons]
      rw [or_left_comm, or_assoc]
    · rw [h4, List.filter_cons]
      cases chgR l m0 k <;> simp
/-- The assembler holds the records of a list. -/
structure Hld (m : RM) (L : List Spn) : Prop where
  keys : (m.map (·.1)).Nodup
  row : ∀ t, recs m t = setS (trF L t)
  mem : ∀ t, t ∈ m.map (·.1) ↔ ∃ s ∈ L, s.tr = t
theorem setS_nil : setS [] = [] := List.eq_nil_iff_forall_not_mem.2 fun s h => by have := mem_setS.1 h; cases this
theorem hld_nil : Hld [] [] := ⟨List.Pairwise.nil, fun t => by rw [show trF [] t = [] from rfl, setS_nil]; rfl, fun t => by simp⟩
theorem trF_app (a b : List Spn) (t : Int) : trF (a ++ b) t = trF a t ++ trF b t := by unfold trF; rw [List.filter_append]
theorem nowR_is {m : RM} {L : List Spn} (h : Hld m L) (l : List Spn) (t : Int) : nowR l m t = setS (trF (L ++ l) t) := by
  unfold nowR
  rw [h.row, recs_more, trF_app]
  refine setS_eq fun s => ?_
  simp only [List.mem_append, mem_setS]
theorem winS_set (l : List Spn) : winS (setS l) = winS l := by unfold winS; rw [setS_set]
theorem more_nodup (l : List Spn) : ((moreR l).map (·.1)).Nodup := kmN_keys _ _
theorem addF_hld {m : RM} {L : List Spn} (h : Hld m L) (l : List Spn) : Hld (addF m l).1 (L ++ l) := by
  have hn : (srtI ((moreR l).map (·.1))).Nodup := (List.mergeSort_perm _ _).nodup_iff.2 (more_nodup l)
  obtain ⟨h1, h2, h3, h4⟩ := addS_fold l m (srtI ((moreR l).map (·.1))) m [] hn (fun t _ => rfl)
  refine ⟨h3 h.keys, fun t => ?_, fun t => ?_⟩
  · unfold addF
    rw [h1]
    by_cases e : t ∈ srtI ((moreR l).map (·.1))
    · rw [if_pos e, nowR_is h]
    · rw [if_neg e, h.row]
      rw [srtI_mem, more_key] at e
      have : trF l t = [] := List.eq_nil_iff_forall_not_mem.2 fun s hs => e ⟨s, (mem_trF.1 hs).1, (mem_trF.1 hs).2⟩
      rw [trF_app, this, List.append_nil]
  · unfold addF
    rw [h2, srtI_mem, more_key, h.mem]
    simp only [List.mem_append]
    constructor
    · rintro (⟨s, hs, e⟩ | ⟨s, hs, e⟩)
      · exact ⟨s, .inr hs, e⟩
      · exact ⟨s, .inl hs, e⟩
    · rintro ⟨s, hs | hs, e⟩
      · exact .inr ⟨s, hs, e⟩
      · exact .inl ⟨s, hs, e⟩
theorem hld_win {m : RM} {L : List Spn} (h : Hld m L) (t : Int) : winS (recs m t) = ofS L t := by
  rw [h.row, winS_set]
  rfl
end Go.Proofs.YtigenjeealkdlaaGreat
namespace Go.Proofs.YtigenjeealkdlaaGreat
open Go.RowKit Go.Exe
theorem famB (l : List Fm) (B : Nat) (h : B ≤ 1000000) : (B + ((famL l).length + 1) * (famL l).length) * 168 ≤ 140737488355328 := by
  have h1 := famL_len l
  have h2 : ((famL l).length + 1) * (famL l).length ≤ 13 * 12 := Nat.mul_le_mul (by omega) h1
  omega
attribute [local irreducible] W AX Run RunD AStep AOp AOpX AStB AStH AStG Fits PCall GCall PostG Post Stop
theorem members_c (c144 : SortC Tryz.prog 144 14) (c85 : SortI Tryz.prog 85) (g122 : GrowC Tryz.prog 122 88 14 168) (l : List Fm) : PCall Tryz.prog 20 [spsT (famL l)] (spsT (ofS (famL l) 1)) := by
  have c36 := add_c c144 c85 g122 [] (famL l) 0 (fam_okL l) (fam_chkL l) (fun s hs => (fam_I l s hs).1) (by simp) (famB l 0 (by decide))
  have hh := addF_hld hld_nil (famL l)
  rw [List.nil_append] at hh
  have c45 := spans_c c144 (addF [] (famL l)).1 1 (by unfold I64; omega)
  rw [hld_win hh] at c45
  clear c144 c85 g122 hh
  generalize addF [] (famL l) = r at *
  obtain ⟨m, o⟩ := r
  dsimp only at c36 c45
  refine PCall.intro (nt := 10) (rs := [.tmp 2]) Tryz.func20 rfl ⟨by kernel_rfl, by kernel_rfl, by kernel_rfl⟩ (by simp) ?_
  rintro ⟨P, w0, ok0, may, np, pblk⟩ rfl rfl
  repeat' (first | refine W.stop (id := 1) ?_ | refine W.seq fun K hK => ?_ | refine W.block ?_ | ((first | refine wR ?_ | refine wD ?_ | refine W.skip ?_ | refine W.exit ?_ | refine W.ret (Post.ret ?_) | refine aP ?_ | refine aF ?_ | refine aL ?_ | refine aU ?_ | refine aM ?_ | refine aN ?_ | refine aR ?_); simp only [go_sem, reduceCtorEq]) | refine wT ?_ | refine wF ?_ | refine wC (fun h => ?_) (fun h => ?_) | refine iK ?_ | refine aI2 ?_ | (refine hK _ ?_; clear hK K) | clear hK K)
  refine Stop.out ?_
  refine W.regE ?_
  refine ⟨rfl, OpE.gcallN 100 rfl rfl new_c rfl (fun k hk hu => by simp [St.used] at hu; omega) ?_⟩
  simp only [go_sem]
  refine ⟨rfl, OpE.ofAOp 200 (by simp [St.used]) ?_⟩
  simp only [go_sem]
  refine ⟨_, Fits.fit [(101, 0), (100, 1)] [0, 3] 2 rfl rfl Fits.rfl, ?_⟩
  simp only [go_sem, rnEs_rcE]
  repeat' (first | refine W.seq fun K hK => ?_ | refine W.block ?_ | ((first | refine wR ?_ | refine wD ?_ | refine W.skip ?_ | refine W.exit ?_ | refine W.ret (Post.ret ?_) | refine aP ?_ | refine aF ?_ | refine aL ?_ | refine aU ?_ | refine aM ?_ | refine aN ?_ | refine aR ?_); simp only [go_sem, reduceCtorEq]) | refine wT ?_ | refine wF ?_ | refine wC (fun h => ?_) (fun h => ?_) | refine iK ?_ | refine aI2 ?_ | (refine hK _ ?_; clear hK K) | clear hK K)
  refine AX.gcall [0, 1] rfl rfl (c36) (by simp only [go_sem, reduceCtorEq, rnEs_rcE]) (by simp only [go_sem, reduceCtorEq, rnEs_rcE]) rfl rfl (by simp only [go_sem, Obj.owns]) rfl (by simp only [go_sem, Obj.owns]) rfl rfl ?_
  simp only [go_sem, reduceCtorEq, rnEs_rcE]
  clear c36
  repeat' (first | refine W.seq fun K hK => ?_ | refine W.block ?_ | ((first | refine wR ?_ | refine wD ?_ | refine W.skip ?_ | refine W.exit ?_ | refine W.ret (Post.ret ?_) | refine aP ?_ | refine aF ?_ | refine aL ?_ | refine aU ?_ | refine aM ?_ | refine aN ?_ | refine aR ?_); simp only [go_sem, reduceCtorEq]) | refine wT ?_ | refine wF ?_ | refine wC (fun h => ?_) (fun h => ?_) | refine iK ?_ | refine aI2 ?_ | (refine hK _ ?_; clear hK K) | clear hK K)
  refine AX.gcall [0, 1] rfl rfl (c45) (by simp only [go_sem, reduceCtorEq, rnEs_rcE]) (by simp only [go_sem, reduceCtorEq, rnEs_rcE]) rfl rfl (by simp only [go_sem, Obj.owns]) rfl (by simp only [go_sem, Obj.owns]) rfl rfl ?_
  simp only [go_sem, reduceCtorEq, rnEs_rcE]
  repeat' (first | refine W.seq fun K hK => ?_ | refine W.block ?_ | ((first | refine wR ?_ | refine wD ?_ | refine W.skip ?_ | refine W.exit ?_ | refine W.ret (Post.ret ?_) | refine aP ?_ | refine aF ?_ | refine aL ?_ | refine aU ?_ | refine aM ?_ | refine aN ?_ | refine aR ?_); simp only [go_sem, reduceCtorEq]) | refine wT ?_ | refine wF ?_ | refine wC (fun h => ?_) (fun h => ?_) | refine iK ?_ | refine aI2 ?_ | (refine hK _ ?_; clear hK K) | clear hK K)
end Go.Proofs.YtigenjeealkdlaaGreat
namespace Go.Proofs.YtigenjeealkdlaaGreat
open Go.RowKit Go.Exe
attribute [local irreducible] W AX Run RunD AStep AOp AOpX AStB AStH AStG Fits PCall GCall PostG Post Stop
end Go.Proofs.YtigenjeealkdlaaGreat
namespace Go.Proofs.YtigenjeealkdlaaGreat
open Go.RowKit Go.Exe
/-! ### the document's below -/
theorem vis_pre (nds : List Nd) : ∀ (n : Nat) (seen : List Int) (id : Int), ∃ r, visF nds n seen id = seen ++ r
  | 0, seen, id => ⟨[], by simp [visF]⟩
  | n + 1, seen, id => by
    unfold visF
    cases chOf nds id with
    | none => exact ⟨[], by simp⟩
    | some ch =>
      by_cases hn : id ∈ seen
      · simp only [if_pos hn]; exact ⟨[], by simp⟩
      · simp only [if_neg hn]
        have key : ∀ (ch s : List Int), ∃ r, ch.foldl (visF nds n) s = s ++ r := by
          intro ch
          induction ch with
          | nil => exact fun s => ⟨[], by simp⟩
          | cons c r ih =>
            intro s
            obtain ⟨r1, h1⟩ := vis_pre nds n s c
            obtain ⟨r2, h2⟩ := ih (visF nds n s c)
            exact ⟨r1 ++ r2, by rw [List.foldl_cons, h2, h1, List.append_assoc]⟩
        obtain ⟨r, h⟩ := key ch (seen ++ [id])
        exact ⟨[id] ++ r, by rw [h, List.append_assoc]⟩
theorem fold_pre (nds : List Nd) (n : Nat) : ∀ (ch s : List Int), ∃ r, ch.foldl (visF nds n) s = s ++ r
  | [], s => ⟨[], by simp⟩
  | c :: r, s => by
    obtain ⟨r1, h1⟩ := vis_pre nds n s c
    obtain ⟨r2, h2⟩ := fold_pre nds n r (visF nds n s c)
    exact ⟨r1 ++ r2, by rw [List.foldl_cons, h2, h1, List.append_assoc]⟩
attribute [local irreducible] W AX Run RunD AStep AOp AOpX AStB AStH AStG Fits PCall GCall PostG Post Stop
theorem below29_c {ss : List Spn} (hs : ss.Pairwise fun a b => a.id < b.id) (h0 : ∀ s ∈ ss, s.id ≠ 0) (hlen : ss.length ≤ 1000000) :
    ∀ (n : Nat) (done : List Int) (id : Int) (r : List Int), OkS (nodesD ss ss.length) done → ss.length < n + done.length → id ∈ idsOf ss → id ∉ done → visF (nodesD ss ss.length) n done id = done ++ r →
      PCall Tryz.prog 29 [spsT ss, ft (.int .i64 id), intsT done] (intsT r) := by
  intro n
  induction n with
  | zero => intro done id r hok hlt; have := hok.len; rw [nodesD_len] at this; omega
  | succ n ih =>
    intro done id r hok hlt hid hnd hr
    have hc := chOf_is hs (d := ss.length) hid
    unfold visF at hr
    rw [hc] at hr
    simp only [if_neg hnd] at hr
    obtain ⟨s0, hs0, he0⟩ := List.mem_map.1 hid
    have c24 := children_c ss id hlen
    rw [chM_is (he0 ▸ h0 s0 hs0)] at c24
    have hok2 := hok.snoc hc hnd
    have hkI : ∀ c ∈ kidsF ss id, c ∈ idsOf ss := fun c h => kids_ids h
    have hkl : (kidsF ss id).length ≤ ss.length := by
      have := (kids_nodup (nodup_sorted hs) id).length_le_of_subset hkI
      rwa [show (idsOf ss).length = ss.length by simp [idsOf]] at this
    clear hc he0 h0
    generalize kidsF ss id = ks at *
    obtain ⟨sq, hsq⟩ : ∃ sq : Nat → List Int, sq = fun i => (ks.take i).foldl (visF (nodesD ss ss.length) n) (done ++ [id]) := ⟨_, rfl⟩
    have hsqs : ∀ i c, ks[i]? = some c → sq (i + 1) = visF (nodesD ss ss.length) n (sq i) c := fun i c hc => by rw [hsq]; simp only [List.take_add_one, hc, Option.toList_some, List.foldl_append, List.foldl_cons, List.foldl_nil]
    have hsq0 : sq 0 = done ++ [id] := by rw [hsq]; rfl
    have hsqe : sq ks.length = done ++ r := by rw [hsq, ← hr]; simp
    have hsqp : ∀ i, ∃ out, sq i = done ++ out ∧ 1 ≤ out.length := fun i => by
      obtain ⟨r, h⟩ := fold_pre (nodesD ss ss.length) n (ks.take i) (done ++ [id])
      exact ⟨[id] ++ r, by rw [hsq]; dsimp only; rw [h, List.append_assoc], by simp⟩
    obtain ⟨out, hout⟩ : ∃ out : Nat → List Int, ∀ i, sq i = done ++ out i ∧ 1 ≤ (out i).length := ⟨fun i => (hsqp i).choose, fun i => (hsqp i).choose_spec⟩
    have hout0 : out 0 = [id] := List.append_cancel_left ((hout 0).1.symm.trans hsq0)
    have houte : out ks.length = r := List.append_cancel_left ((hout ks.length).1.symm.trans hsqe)
    have cH := has_c
    clear hsq hr hsqp hsqe hsq0
    refine PCall.intro (nt := 51) (rs := [.tmp 6]) Tryz.func29 rfl ⟨by kernel_rfl, by kernel_rfl, by kernel_rfl⟩ (by simp) ?_
    rintro ⟨P, w0, ok0, may, np, pblk⟩ rfl rfl
    refine W.lenB 2 rfl tE3 fun hl0 hl1 => ?_
    rw [List.length_map] at hl1
    repeat' (first | refine W.seq fun K hK => ?_ | refine W.block ?_ | ((first | refine wR ?_ | refine wD ?_ | refine W.skip ?_ | refine W.exit ?_ | refine W.ret (Post.ret ?_) | refine aP ?_ | refine aF ?_); simp only [go_sem, reduceCtorEq]) | refine wT ?_ | refine wF ?_ | refine wC (fun h => ?_) (fun h => ?_) | refine iK ?_ | refine aI2 ?_ | (refine hK _ ?_; clear hK K) | clear hK K)
    clear c24
    refine W.loopF (T := fun i : Nat => { t := [(0, spsT ss), (2, intsT done), (7, .c (.ref 0)), (8, intsT ks), (9, ft (.int .i64 (i : Nat)))], h := [(0, .row 3 (imR ((out i).map iA)))], nx := 1, ex := [], nt := 51 })
      (Inv := fun i => i ≤ ks.length ∧ OkS (nodesD ss ss.length) (sq i)) (μ := fun i => ks.length - i) (x0 := 0) ?_ ⟨Nat.zero_le _, by rw [(hout 0).1, hout0]; exact hok2⟩ ?_
    · refine Fits.fit [(2, 0)] [0, 2, 7, 8, 9] 1 rfl rfl ?_
      simp only [go_sem, hout0]
      exact Fits.rfl
    rintro i ⟨hi, hoki⟩ KL hKL
    by_cases hlt2 : i < ks.length
    · obtain ⟨c, hx, hm, _⟩ := drop_at hlt2
      have e1 : decide ((i : Int) < ks.length) = true := by simp; omega
      have e2 : decide (i < ks.length) = true := by simp; omega
      have hw := w64s i (by omega)
      have hv := visF_ok (nodesD ss ss.length) n (sq i) c hoki
      have hst := hsqs i c hx
      rw [← hst] at hv
      have hol := hv.1.len
      rw [nodesD_len, (hout (i + 1)).1, List.length_append] at hol
      have hli := hoki.len
      rw [nodesD_len, (hout i).1, List.length_append] at hli
      have h1 := (hout i).2
      have q1 := cH done c
      have q2 := cH (out i) c
      clear cH
      cases g1 : done.contains c with
      | true =>
        have hin : c ∈ sq i := by rw [(hout i).1]; exact List.mem_append_left _ (List.contains_iff_mem.1 g1)
        have hsame : out (i + 1) = out i := by
          have : sq (i + 1) = sq i := by
            rw [hst]
            cases n with
            | zero => rfl
            | succ n => unfold visF; rw [chOf_is hs (hkI c hm)]; simp only [if_pos hin]
          exact List.append_cancel_left ((hout (i + 1)).1.symm.trans (this.trans (hout i).1))
        rw [g1] at q1
        clear ih
        repeat' (first | refine W.seq fun K hK => ?_ | refine W.block ?_ | ((first | refine wR ?_ | refine wD ?_ | refine W.skip ?_ | refine W.exit ?_ | refine W.ret (Post.ret ?_) | refine aP ?_ | refine aF ?_); simp only [go_sem, reduceCtorEq, List.getElem?_map, hx, iA, e1, e2, hw, List.length_map]) | refine wT ?_ | refine wF ?_ | refine wC (fun h => ?_) (fun h => ?_) | refine iK ?_ | refine aI2 ?_ | (refine hK _ ?_; clear hK K) | clear hK K)
        refine hKL.to (i + 1) ⟨by omega, hv.1⟩ (by omega) ?_
        refine Fits.fit [(0, 0)] [0, 2, 7, 8, 9] 1 rfl rfl ?_
        simp only [go_sem, hsame]
        exact Fits.rfl
      | false =>
        rw [g1] at q1
        cases g2 : (out i).contains c with
        | true =>
          have hin : c ∈ sq i := by rw [(hout i).1]; exact List.mem_append_right _ (List.contains_iff_mem.1 g2)
          have hsame : out (i + 1) = out i := by
            have : sq (i + 1) = sq i := by
              rw [hst]
              cases n with
              | zero => rfl
              | succ n => unfold visF; rw [chOf_is hs (hkI c hm)]; simp only [if_pos hin]
            exact List.append_cancel_left ((hout (i + 1)).1.symm.trans (this.trans (hout i).1))
          rw [g2] at q2
          clear ih
          repeat' (first | refine W.seq fun K hK => ?_ | refine W.block ?_ | ((first | refine wR ?_ | refine wD ?_ | refine W.skip ?_ | refine W.exit ?_ | refine W.ret (Post.ret ?_) | refine aP ?_ | refine aF ?_); simp only [go_sem, reduceCtorEq, List.getElem?_map, hx, iA, e1, e2, hw, List.length_map]) | refine wT ?_ | refine wF ?_ | refine wC (fun h => ?_) (fun h => ?_) | refine iK ?_ | refine aI2 ?_ | (refine hK _ ?_; clear hK K) | clear hK K)
          refine hKL.to (i + 1) ⟨by omega, hv.1⟩ (by omega) ?_
          refine Fits.fit [(0, 0)] [0, 2, 7, 8, 9] 1 rfl rfl ?_
          simp only [go_sem, hsame]
          exact Fits.rfl
        | false =>
          rw [g2] at q2
          have hno : c ∉ sq i := by
            rw [(hout i).1, List.mem_append]
            rintro (h | h)
            · rw [List.contains_iff_mem.2 h] at g1; cases g1
            · rw [List.contains_iff_mem.2 h] at g2; cases g2
          obtain ⟨r2, hr2⟩ := vis_pre (nodesD ss ss.length) n (sq i) c
          have hlq : ss.length < n + (sq i).length := by rw [(hout i).1, List.length_append]; omega
          have c29 := ih (sq i) c r2 hoki hlq (hkI c hm) hno hr2
          have hnew : out (i + 1) = out i ++ r2 := by
            have : done ++ out (i + 1) = done ++ (out i ++ r2) := by rw [← (hout (i + 1)).1, hst, hr2, (hout i).1, List.append_assoc]
            exact List.append_cancel_left this
          have hr2l : (out (i + 1)).length = (out i).length + r2.length := by rw [hnew, List.length_append]
          rw [(hout i).1] at c29
          clear ih
          have b1 : done.length * 8 ≤ 140737488355328 := by omega
          have b2 : (done.length + (out i).length) * 8 ≤ 140737488355328 := by omega
          have b3 : ((out i).length + r2.length) * 8 ≤ 140737488355328 := by omega
          have hrow : imR (done.map iA) ++ imR ((out i).map iA) = imR ((done ++ out i).map iA) := by simp [imR]
          have hrow2 : imR ((out i).map iA) ++ imR (r2.map iA) = imR ((out (i + 1)).map iA) := by rw [hnew]; simp [imR]
          repeat' (first | refine W.seq fun K hK => ?_ | refine W.block ?_ | ((first | refine wR ?_ | refine wD ?_ | refine W.skip ?_ | refine W.exit ?_ | refine W.ret (Post.ret ?_) | refine aP ?_ | refine aF ?_); simp only [go_sem, reduceCtorEq, List.getElem?_map, hx, iA, e1, e2, hw, b1, b2, b3, hrow, List.length_map, imR_len]) | refine wT ?_ | refine wF ?_ | refine wC (fun h => ?_) (fun h => ?_) | refine iK ?_ | refine aI2 ?_ | (refine hK _ ?_; clear hK K) | clear hK K)
          refine hKL.to (i + 1) ⟨by omega, hv.1⟩ (by omega) ?_
          refine Fits.fit [(33, 0)] [0, 2, 7, 8, 9] 1 rfl rfl ?_
          simp only [go_sem, hrow2]
          exact Fits.rfl
    · obtain rfl : i = ks.length := by omega
      have e1 : decide ((ks.length : Int) < ks.length) = false := by simp
      clear hKL ih cH
      repeat' (first | refine W.seq fun K hK => ?_ | refine W.block ?_ | ((first | refine wR ?_ | refine wD ?_ | refine W.skip ?_ | refine W.exit ?_ | refine W.ret (Post.ret ?_) | refine aP ?_ | refine aF ?_); simp only [go_sem, reduceCtorEq, e1, List.length_map]) | refine wT ?_ | refine wF ?_ | refine wC (fun h => ?_) (fun h => ?_) | refine iK ?_ | refine aI2 ?_ | (refine hK _ ?_; clear hK K) | clear hK K)
      rw [houte]
end Go.Proofs.YtigenjeealkdlaaGreat
namespace Go.Proofs.YtigenjeealkdlaaGreat
open Go.RowKit Go.Exe
/-! ### the nearest common ancestor -/
def comT (nds : List Nd) (a b : Int) : Option Int := if fndB nds a && fndB nds b then (a :: ancT nds a).find? (fun x => (b :: ancT nds b).contains x) else none
abbrev comR (o : Option Int) : TV := .t [(false, [fl (.int .i64 (o.getD 0))]), (false, [fl (.bool o.isSome)])]
attribute [local irreducible] W AX Run RunD AStep AOp AOpX AStB AStH AStG Fits PCall GCall PostG Post Stop
theorem common_c (t : Tr) (hs : t.nds.Pairwise fun a b => a.id < b.id) (a b : Int) (hla : (ancT t.nds a).length ≤ 1000000) (hlb : (ancT t.nds b).length ≤ 1000000) : PCall Tryz.prog 30 [trT t, ft (.int .i64 a), ft (.int .i64 b)] (comR (comT t.nds a b)) := by
  have ia := index_c t a hs
  have ib := index_c t b hs
  have ca := ancestors_c t hs a
  have cb := ancestors_c t hs b
  simp only [trT, trA, List.map] at ia ib ca cb ⊢
  unfold comT
  cases ha : fndB t.nds a with
  | false =>
    rw [ha] at ia
    clear ca cb
    cases hb : fndB t.nds b with
    | false =>
      rw [hb] at ib
      refine PCall.intro (nt := 55) (rs := [.tmp 6, .tmp 7]) Tryz.func30 rfl ⟨by kernel_rfl, by kernel_rfl, by kernel_rfl⟩ (by simp) ?_
      rintro ⟨P, w0, ok0, may, np, pblk⟩ rfl rfl
      refine W.fits (s' := { t := [(0, .g (trB t)), (1, ft (.int .i64 a)), (2, ft (.int .i64 b))], h := [], nx := 0, ex := [], nt := 55 }) Fits.rfl ?_
      repeat' (first | refine W.seq fun K hK => ?_ | refine W.block ?_ | ((first | refine wR ?_ | refine wD ?_ | refine W.skip ?_ | refine W.exit ?_ | refine W.ret (Post.ret ?_) | refine aP ?_ | refine aF ?_); simp only [go_sem, reduceCtorEq]) | refine wT ?_ | refine wF ?_ | refine wC (fun h => ?_) (fun h => ?_) | refine iK ?_ | refine aI2 ?_ | (refine hK _ ?_; clear hK K) | clear hK K)
      rfl
    | true =>
      rw [hb] at ib
      refine PCall.intro (nt := 55) (rs := [.tmp 6, .tmp 7]) Tryz.func30 rfl ⟨by kernel_rfl, by kernel_rfl, by kernel_rfl⟩ (by simp) ?_
      rintro ⟨P, w0, ok0, may, np, pblk⟩ rfl rfl
      refine W.fits (s' := { t := [(0, .g (trB t)), (1, ft (.int .i64 a)), (2, ft (.int .i64 b))], h := [], nx := 0, ex := [], nt := 55 }) Fits.rfl ?_
      repeat' (first | refine W.seq fun K hK => ?_ | refine W.block ?_ | ((first | refine wR ?_ | refine wD ?_ | refine W.skip ?_ | refine W.exit ?_ | refine W.ret (Post.ret ?_) | refine aP ?_ | refine aF ?_); simp only [go_sem, reduceCtorEq]) | refine wT ?_ | refine wF ?_ | refine wC (fun h => ?_) (fun h => ?_) | refine iK ?_ | refine aI2 ?_ | (refine hK _ ?_; clear hK K) | clear hK K)
      rfl
  | true =>
  rw [ha] at ia
  cases hb : fndB t.nds b with
  | false =>
    rw [hb] at ib
    clear ca cb
    refine PCall.intro (nt := 55) (rs := [.tmp 6, .tmp 7]) Tryz.func30 rfl ⟨by kernel_rfl, by kernel_rfl, by kernel_rfl⟩ (by simp) ?_
    rintro ⟨P, w0, ok0, may, np, pblk⟩ rfl rfl
    refine W.fits (s' := { t := [(0, .g (trB t)), (1, ft (.int .i64 a)), (2, ft (.int .i64 b))], h := [], nx := 0, ex := [], nt := 55 }) Fits.rfl ?_
    repeat' (first | refine W.seq fun K hK => ?_ | refine W.block ?_ | ((first | refine wR ?_ | refine wD ?_ | refine W.skip ?_ | refine W.exit ?_ | refine W.ret (Post.ret ?_) | refine aP ?_ | refine aF ?_); simp only [go_sem, reduceCtorEq]) | refine wT ?_ | refine wF ?_ | refine wC (fun h => ?_) (fun h => ?_) | refine iK ?_ | refine aI2 ?_ | (refine hK _ ?_; clear hK K) | clear hK K)
    rfl
  | true =>
  rw [hb] at ib
  rw [Bool.and_true, if_pos rfl]
  have b1 : (1 + (ancT t.nds a).length) * 8 ≤ 140737488355328 := by omega
  have b2 : (1 + (ancT t.nds b).length) * 8 ≤ 140737488355328 := by omega
  generalize ancT t.nds a = ua at *
  generalize ancT t.nds b = ub at *
  have r1 : [[Cell.im (AV.flat (Value.int .i64 b))]] ++ imR (ub.map iA) = imR ((b :: ub).map iA) := by simp [imR, imL, iA]
  have r2 : [[Cell.im (AV.flat (Value.int .i64 a))]] ++ imR (ua.map iA) = imR ((a :: ua).map iA) := by simp [imR, imL, iA]
  refine PCall.intro (nt := 55) (rs := [.tmp 6, .tmp 7]) Tryz.func30 rfl ⟨by kernel_rfl, by kernel_rfl, by kernel_rfl⟩ (by simp) ?_
  rintro ⟨P, w0, ok0, may, np, pblk⟩ rfl rfl
  refine W.fits (s' := { t := [(0, .g (trB t)), (1, ft (.int .i64 a)), (2, ft (.int .i64 b))], h := [], nx := 0, ex := [], nt := 55 }) Fits.rfl ?_
  repeat' (first | refine W.seq fun K hK => ?_ | refine W.block ?_ | ((first | refine wR ?_ | refine wD ?_ | refine W.skip ?_ | refine W.exit ?_ | refine W.ret (Post.ret ?_) | refine aP ?_ | refine aF ?_); simp only [go_sem, reduceCtorEq, b1, b2, r1, r2, List.length_map, imR_len]) | refine wT ?_ | refine wF ?_ | refine wC (fun h => ?_) (fun h => ?_) | refine iK ?_ | refine aI2 ?_ | (refine hK _ ?_; clear hK K) | clear hK K)
  refine W.loopF (T := fun i : Nat => { t := [(12, .c (.ref 0)), (44, .c (.ref 1)), (45, ft (.int .i64 ((a :: ua).length : Nat))), (46, ft (.int .i64 (i : Nat)))], h := [(0, .row 3 (imR ((b :: ub).map iA))), (1, .row 3 (imR ((a :: ua).map iA)))], nx := 2, ex := [], nt := 55 })
    (Inv := fun i => i ≤ (a :: ua).length ∧ (a :: ua).find? (fun x => (b :: ub).contains x) = ((a :: ua).drop i).find? (fun x => (b :: ub).contains x)) (μ := fun i => (a :: ua).length - i) (x0 := 0) ?_ ⟨Nat.zero_le _, rfl⟩ ?_
  · refine Fits.fit [(30, 0), (37, 1)] [12, 44, 45, 46] 2 rfl rfl ?_
    simp only [go_sem]
    exact Fits.rfl
  generalize hA : a :: ua = A at *
  generalize hB : b :: ub = B at *
  have hAl : A.length ≤ 1000001 := by rw [← hA]; simp; omega
  rintro i ⟨hi, hinv⟩ KL hKL
  by_cases hlt : i < A.length
  · obtain ⟨x, hx, hm, hd⟩ := drop_at hlt
    have e1 : decide ((i : Int) < A.length) = true := by simp; omega
    have e2 : decide (i < A.length) = true := by simp; omega
    have hw := w64s i (by omega)
    have c59 := contains_c B x
    rw [hd, List.find?_cons] at hinv
    cases hc : B.contains x with
    | true =>
      rw [hc] at hinv c59
      dsimp only at hinv
      clear hKL
      repeat' (first | refine W.seq fun K hK => ?_ | refine W.block ?_ | ((first | refine wR ?_ | refine wD ?_ | refine W.skip ?_ | refine W.exit ?_ | refine W.ret (Post.ret ?_) | refine aP ?_ | refine aF ?_); simp only [go_sem, reduceCtorEq, imR_get, List.getElem?_map, hx, iA, imL, e1, e2, List.length_map, imR_len]) | refine wT ?_ | refine wF ?_ | refine wC (fun h => ?_) (fun h => ?_) | refine iK ?_ | refine aI2 ?_ | (refine hK _ ?_; clear hK K) | clear hK K)
      rw [hinv]
      rfl
    | false =>
      rw [hc] at hinv c59
      dsimp only at hinv
      repeat' (first | refine W.seq fun K hK => ?_ | refine W.block ?_ | ((first | refine wR ?_ | refine wD ?_ | refine W.skip ?_ | refine W.exit ?_ | refine W.ret (Post.ret ?_) | refine aP ?_ | refine aF ?_); simp only [go_sem, reduceCtorEq, imR_get, List.getElem?_map, hx, iA, imL, e1, e2, hw, List.length_map, imR_len]) | refine wT ?_ | refine wF ?_ | refine wC (fun h => ?_) (fun h => ?_) | refine iK ?_ | refine aI2 ?_ | (refine hK _ ?_; clear hK K) | clear hK K)
      refine hKL.to (i + 1) ⟨by omega, hinv⟩ (by omega) ?_
      refine Fits.fit [(0, 0), (1, 1)] [12, 44, 45, 46] 2 rfl rfl ?_
      simp only [go_sem]
      exact Fits.rfl
  · obtain rfl : i = A.length := by omega
    have e1 : decide ((A.length : Int) < A.length) = false := by simp
    have h2 : A.find? (fun x => B.contains x) = none := by rw [hinv, List.drop_of_length_le (Nat.le_refl _)]; rfl
    clear hKL
    repeat' (first | refine W.seq fun K hK => ?_ | refine W.block ?_ | ((first | refine wR ?_ | refine wD ?_ | refine W.skip ?_ | refine W.exit ?_ | refine W.ret (Post.ret ?_) | refine aP ?_ | refine aF ?_); simp only [go_sem, reduceCtorEq, e1]) | refine wT ?_ | refine wF ?_ | refine wC (fun h => ?_) (fun h => ?_) | refine iK ?_ | refine aI2 ?_ | (refine hK _ ?_; clear hK K) | clear hK K)
    rw [h2]
    rfl
end Go.Proofs.YtigenjeealkdlaaGreat
namespace Go.Proofs.YtigenjeealkdlaaGreat
open Go.RowKit Go.Exe
/-- The document's nearest common ancestor. -/
def comM (ss : List Spn) (a b : Int) : Int := ((a :: ancS ss a).find? fun x => decide (x ∈ idsOf ss) && (b :: ancS ss b).contains x).getD (-1)
theorem fndB_is {ss : List Spn} (hs : ss.Pairwise fun a b => a.id < b.id) (d : Nat) (a : Int) : fndB (nodesD ss d) a = decide (a ∈ idsOf ss) := by
  rw [parOf_B, parOf_is hs]
  by_cases h : a ∈ idsOf ss
  · rw [decide_eq_true h]
    cases hp : parS ss a with
    | none => exact absurd h (parS_none hp)
    | some p => rfl
  · rw [decide_eq_false h, parS_out h]; rfl
theorem ancS_out {ss : List Spn} {a : Int} (h : a ∉ idsOf ss) : ancS ss a = [] := by unfold ancS; rw [ancG, parS_out h]
theorem com_is {ss : List Spn} (hs : ss.Pairwise fun a b => a.id < b.id) (a b : Int) : comM ss a b = (comT (nodesD ss ss.length) a b).getD (-1) ∧ ∀ x, comT (nodesD ss ss.length) a b = some x → x ∈ idsOf ss := by
  unfold comT
  rw [fndB_is hs, fndB_is hs, ancS_T hs, ancS_T hs]
  by_cases ha : a ∈ idsOf ss
  · have hup : ∀ x ∈ a :: ancS ss a, x ∈ idsOf ss := fun x hx => by
      rcases List.mem_cons.1 hx with rfl | hx
      · exact ha
      · exact ancS_ids hx
    by_cases hb : b ∈ idsOf ss
    · rw [decide_eq_true ha, decide_eq_true hb, Bool.and_true, if_pos rfl]
      have key : ∀ (P : Int → Bool) (l : List Int), (∀ x ∈ l, x ∈ idsOf ss) → (l.find? fun x => decide (x ∈ idsOf ss) && P x) = l.find? P := by
        intro P l
        induction l with
        | nil => intro _; rfl
        | cons y r ih =>
          intro h
          rw [List.find?_cons, List.find?_cons, ih fun x hx => h x (by simp [hx]), decide_eq_true (h y (by simp)), Bool.true_and]
      refine ⟨by unfold comM; rw [key _ _ hup], fun x hx => hup x (List.mem_of_find?_eq_some hx)⟩
    · rw [decide_eq_false hb, Bool.and_false, if_neg (by simp)]
      refine ⟨?_, fun x hx => by cases hx⟩
      unfold comM
      rw [ancS_out hb]
      have : ((a :: ancS ss a).find? fun x => decide (x ∈ idsOf ss) && [b].contains x) = none := by
        rw [List.find?_eq_none]
        intro x hx
        by_cases e : x = b
        · subst e; simp [hb]
        · simp [e]
      rw [this]
  · rw [decide_eq_false ha, Bool.false_and, if_neg (by simp)]
    refine ⟨?_, fun x hx => by cases hx⟩
    unfold comM
    rw [ancS_out ha]
    simp [ha]
attribute [local irreducible] W AX Run RunD AStep AOp AOpX AStB AStH AStG Fits PCall GCall PostG Post Stop
theorem subtrees_c (c144 : SortC Tryz.prog 144 14) (c85 : SortI Tryz.prog 85) (g84 : GrowC Tryz.prog 84 3 1 8) (g122 : GrowC Tryz.prog 122 88 14 168) (l : List Fm) (hl : ∀ q ∈ l, FmOk q) (a b : Int) (hIa : I64 a) : PCall Tryz.prog 6 [famT l, ft (.int .i64 a), ft (.int .i64 b)] (ft (.bool true)) := by
  have c12 := known_c c144 c85 g84 g122
  have c14 := family_c l hl
  have c13 := fam_build0 c144 c85 g84 l 1
  have c20 := members_c c144 c85 g122 l
  have hsrt := ofS_srt (famL l) 1
  have hlen := fam_len l 1
  have hid0 := fam_id0 l 1
  have hI := fam_id l 1
  have hpos : ∀ s ∈ ofS (famL l) 1, 0 < s.id := fun s hs => by
    obtain ⟨q, _, rfl⟩ := famL_mem (ofS_mem hs).1
    show 0 < ((1 + q.2.1 % 6 : Nat) : Int)
    omega
  clear c144 c85 g84 g122 hl
  generalize ofS (famL l) 1 = ss at *
  have hok := treeOf_ok hsrt 1
  have hch := famT_ch (fun s hs => (hI s hs).2.1) 1
  have hnl : (treeOf 1 ss).nds.length = ss.length := nodesD_len
  have c15 := subtree_c (treeOf 1 ss) hok hch a hIa (by rw [hnl]; omega)
  have hnds : (treeOf 1 ss).nds = nodesD ss ss.length := rfl
  have hal := ancS_len ss a
  have hbl := ancS_len ss b
  have c30 := common_c (treeOf 1 ss) hok a b (by rw [hnds, ancS_T hsrt]; omega) (by rw [hnds, ancS_T hsrt]; omega)
  have c26a := ancestors26_c ss a (by omega)
  have c26b := ancestors26_c ss b (by omega)
  have c22 := node22_c ss a
  obtain ⟨hcM, hcI⟩ := com_is hsrt a b
  rw [hnds] at c15 c30
  have hsb : a ∉ idsOf ss → subF (nodesD ss ss.length) a = [] := fun h => by
    unfold subF visF
    have : chOf (nodesD ss ss.length) a = none := by
      have h2 := chOf_B (nodesD ss ss.length) a
      rw [fndB_is hsrt, decide_eq_false h] at h2
      cases hc : chOf (nodesD ss ss.length) a with
      | none => rfl
      | some c => rw [hc] at h2; cases h2
    rw [this]
  have c29 : a ∈ idsOf ss → PCall Tryz.prog 29 [spsT ss, ft (.int .i64 a), ft (.slice none 0 0)] (intsT (subF (nodesD ss ss.length) a)) := fun h =>
    PCall.conv (args' := [spsT ss, ft (.int .i64 a), intsT []]) (below29_c hsrt hid0 (by omega) ((nodesD ss ss.length).length + 1) [] a _ (okS_nil _) (by rw [nodesD_len]; simp) h (by simp) (by rw [List.nil_append]; rfl)) (Al.cons TLe.rfl (Al.cons TLe.rfl (Al.cons (TLe.c CLe.nil) Al.nil))) TLe.rfl
  generalize treeOf 1 ss = T at *
  generalize hsub : subF (nodesD ss ss.length) a = sb at *
  have c23 := same_c sb sb
  rw [decide_eq_true rfl] at c23
  generalize hcT : comT (nodesD ss ss.length) a b = o at *
  simp only [trT, trA, List.map] at c13 c15 c30
  refine PCall.intro (nt := 105) (rs := [.tmp 6]) Tryz.func6 rfl ⟨by kernel_rfl, by kernel_rfl, by kernel_rfl⟩ (by simp) ?_
  rintro ⟨P, w0, ok0, may, np, pblk⟩ rfl rfl
  repeat' (first | refine W.stop (id := 5) ?_ | refine W.seq fun K hK => ?_ | refine W.block ?_ | ((first | refine wR ?_ | refine wD ?_ | refine W.skip ?_ | refine W.exit ?_ | refine W.ret (Post.ret ?_) | refine aP ?_ | refine aF ?_); simp only [go_sem, reduceCtorEq]) | refine wT ?_ | refine wF ?_ | refine wC (fun h => ?_) (fun h => ?_) | refine iK ?_ | refine aI2 ?_ | (refine hK _ ?_; clear hK K) | clear hK K)
  refine Stop.out ?_
  rename_i K8 hK8
  have hJ : ∀ s1, Fits { P := Tryz.prog, w0 := w0, ok0 := ok0, may := may, np := 0, pblk := pblk } s1 { t := [(1, ft (.int .i64 a)), (2, ft (.int .i64 b)), (7, .c (.ptr 0 0)), (8, spsT ss), (10, ft (.int .i64 (-1)))], h := [(0, .box 28 (trB T))], nx := 1, ex := [], nt := 105 } → K8 s1 := by
    intro s1 hf
    refine hK8 _ (W.fits hf ?_)
    clear hf hK K hK8 K8 c12 c14 c13 c20 c15 c22 c29
    have b1 : (1 + (ancS ss a).length) * 8 ≤ 140737488355328 := by omega
    have b2 : (1 + (ancS ss b).length) * 8 ≤ 140737488355328 := by omega
    have r1 : [[Cell.im (AV.flat (Value.int .i64 b))]] ++ imR ((ancS ss b).map iA) = imR ((b :: ancS ss b).map iA) := by simp [imR, imL, iA]
    have r2 : [[Cell.im (AV.flat (Value.int .i64 a))]] ++ imR ((ancS ss a).map iA) = imR ((a :: ancS ss a).map iA) := by simp [imR, imL, iA]
    repeat' (first | refine W.seq fun K hK => ?_ | refine W.block ?_ | ((first | refine wR ?_ | refine wD ?_ | refine W.skip ?_ | refine W.exit ?_ | refine W.ret (Post.ret ?_) | refine aP ?_ | refine aF ?_); simp only [go_sem, reduceCtorEq, b1, b2, r1, r2, List.length_map, imR_len]) | refine wT ?_ | refine wF ?_ | refine wC (fun h => ?_) (fun h => ?_) | refine iK ?_ | refine aI2 ?_ | (refine hK _ ?_; clear hK K) | clear hK K)
    obtain ⟨A, hA⟩ : ∃ A, A = a :: ancS ss a := ⟨_, rfl⟩
    obtain ⟨B, hB⟩ : ∃ B, B = b :: ancS ss b := ⟨_, rfl⟩
    have hAl : A.length ≤ 13 := by rw [hA]; simp; omega
    have hA1 : A.length = (ancS ss a).length + 1 := by rw [hA]; simp
    have hcA : comM ss a b = (A.find? fun x => decide (x ∈ idsOf ss) && B.contains x).getD (-1) := by rw [hA, hB]; rfl
    rw [hcM] at hcA
    refine W.loopF (T := fun k : Nat => { t := [(1, ft (.int .i64 a)), (2, ft (.int .i64 b)), (7, .c (.ptr 0 0)), (8, spsT ss), (10, ft (.int .i64 (((A.drop k).find? fun x => decide (x ∈ idsOf ss) && B.contains x).getD (-1)))), (11, .c (.ref 1)), (12, .c (.ref 2)), (13, ft (.int .i64 ((k : Int) - 1)))], h := [(0, .box 28 (trB T)), (1, .row 3 (imR (A.map iA))), (2, .row 3 (imR (B.map iA)))], nx := 3, ex := [], nt := 105 })
      (Inv := fun k => k ≤ A.length) (μ := fun k => k) (x0 := A.length) ?_ (Nat.le_refl _) ?_
    · refine Fits.fit [(0, 0), (6, 1), (12, 2)] [1, 2, 7, 8, 10, 11, 12, 13] 3 rfl rfl ?_
      have hw0 : IntKind.i64.wrap (((((ancS ss a).length + 1 : Nat)) : Int) - 1) = (((ancS ss a).length + 1 : Nat) : Int) - 1 := w64 (by omega) (by omega)
      simp only [go_sem, hw0, hA1, hA, hB, List.drop_succ_cons, List.drop_length, List.find?_nil, Option.getD_none]
      exact Fits.rfl
    rintro k hk KL hKL
    cases k with
    | zero =>
      have e1 : decide ((((0 : Nat) : Int) - 1) ≥ 0) = false := by decide
      rw [List.drop_zero, ← hcA]
      clear hKL
      cases o with
      | none =>
        have e2 : decide ((-1 : Int) ≥ 0) = false := by decide
        have e3 : ((0 : Int) == 0) = true := by decide
        have e4 : (false == false) = true := rfl
        simp only [comR, Option.getD_none, Option.isSome_none] at c30 ⊢
        repeat' (first | refine W.seq fun K hK => ?_ | refine W.block ?_ | ((first | refine wR ?_ | refine wD ?_ | refine W.skip ?_ | refine W.exit ?_ | refine W.ret (Post.ret ?_) | refine aP ?_ | refine aF ?_); simp only [go_sem, reduceCtorEq, e1, e2, e3, e4]) | refine wT ?_ | refine wF ?_ | refine wC (fun h => ?_) (fun h => ?_) | refine iK ?_ | refine aI2 ?_ | (refine hK _ ?_; clear hK K) | clear hK K)
      | some x =>
        obtain ⟨s, hs, he⟩ := List.mem_map.1 (hcI x rfl)
        have h0 := hpos s hs
        have e2 : decide (x ≥ 0) = true := by rw [decide_eq_true_eq]; omega
        have e3 : (x == x) = true := by simp
        have e4 : (true == true) = true := rfl
        simp only [comR, Option.getD_some, Option.isSome_some] at c30 ⊢
        repeat' (first | refine W.seq fun K hK => ?_ | refine W.block ?_ | ((first | refine wR ?_ | refine wD ?_ | refine W.skip ?_ | refine W.exit ?_ | refine W.ret (Post.ret ?_) | refine aP ?_ | refine aF ?_); simp only [go_sem, reduceCtorEq, e1, e2, e3, e4]) | refine wT ?_ | refine wF ?_ | refine wC (fun h => ?_) (fun h => ?_) | refine iK ?_ | refine aI2 ?_ | (refine hK _ ?_; clear hK K) | clear hK K)
    | succ k =>
      obtain ⟨x, hx, hm, hd⟩ := drop_at (show k < A.length by omega)
      have e0 : (((k + 1 : Nat) : Int) - 1) = (k : Int) := by omega
      have e1 : decide ((k : Int) ≥ 0) = true := by simp
      have e2 : decide (k < A.length) = true := by simp; omega
      have hw : IntKind.i64.wrap ((k : Int) - 1) = (k : Int) - 1 := w64 (by omega) (by omega)
      have c22 := node22_c ss x
      have c28 := has_c B x
      have hKL2 := fun (s' : St) h => hKL.to (s' := s') k (by omega) (Nat.lt_succ_self k) h
      rw [hd, List.find?_cons] at hKL2
      clear hKL c30 c26a c26b c23
      rw [e0]
      cases g1 : decide (ndI ss x < 0) with
      | true =>
        have g1' : x ∉ idsOf ss := ndI_neg.1 (of_decide_eq_true g1)
        have g2 : decide (ndI ss x ≥ 0) = false := by rw [decide_eq_false_iff_not]; have := of_decide_eq_true g1; omega
        rw [decide_eq_false g1', Bool.false_and] at hKL2
        dsimp only at hKL2
        repeat' (first | refine W.seq fun K hK => ?_ | refine W.block ?_ | ((first | refine wR ?_ | refine wD ?_ | refine W.skip ?_ | refine W.exit ?_ | refine W.ret (Post.ret ?_) | refine aP ?_ | refine aF ?_); simp only [go_sem, reduceCtorEq, imR_get, List.getElem?_map, hx, iA, imL, e1, e2, g2, hw, List.length_map, imR_len]) | refine wT ?_ | refine wF ?_ | refine wC (fun h => ?_) (fun h => ?_) | refine iK ?_ | refine aI2 ?_ | (refine hK _ ?_; clear hK K) | clear hK K)
        refine hKL2 _ (Fits.fit [(0, 0), (1, 1), (2, 2)] [1, 2, 7, 8, 10, 11, 12, 13] 3 rfl rfl ?_)
        simp only [go_sem]
        exact Fits.rfl
      | false =>
        have g1' : x ∈ idsOf ss := by
          by_cases h : x ∈ idsOf ss
          · exact h
          · rw [decide_eq_true (ndI_neg.2 h)] at g1; cases g1
        have g2 : decide (ndI ss x ≥ 0) = true := by rw [decide_eq_true_eq]; have := of_decide_eq_false g1; omega
        rw [decide_eq_true g1', Bool.true_and] at hKL2
        cases g3 : B.contains x with
        | true =>
          rw [g3] at hKL2 c28
          dsimp only at hKL2
          repeat' (first | refine W.seq fun K hK => ?_ | refine W.block ?_ | ((first | refine wR ?_ | refine wD ?_ | refine W.skip ?_ | refine W.exit ?_ | refine W.ret (Post.ret ?_) | refine aP ?_ | refine aF ?_); simp only [go_sem, reduceCtorEq, imR_get, List.getElem?_map, hx, iA, imL, e1, e2, g2, hw, List.length_map, imR_len]) | refine wT ?_ | refine wF ?_ | refine wC (fun h => ?_) (fun h => ?_) | refine iK ?_ | refine aI2 ?_ | (refine hK _ ?_; clear hK K) | clear hK K)
          refine hKL2 _ (Fits.fit [(0, 0), (1, 1), (2, 2)] [1, 2, 7, 8, 10, 11, 12, 13] 3 rfl rfl ?_)
          simp only [go_sem]
          exact Fits.rfl
        | false =>
          rw [g3] at hKL2 c28
          dsimp only at hKL2
          repeat' (first | refine W.seq fun K hK => ?_ | refine W.block ?_ | ((first | refine wR ?_ | refine wD ?_ | refine W.skip ?_ | refine W.exit ?_ | refine W.ret (Post.ret ?_) | refine aP ?_ | refine aF ?_); simp only [go_sem, reduceCtorEq, imR_get, List.getElem?_map, hx, iA, imL, e1, e2, g2, hw, List.length_map, imR_len]) | refine wT ?_ | refine wF ?_ | refine wC (fun h => ?_) (fun h => ?_) | refine iK ?_ | refine aI2 ?_ | (refine hK _ ?_; clear hK K) | clear hK K)
          refine hKL2 _ (Fits.fit [(0, 0), (1, 1), (2, 2)] [1, 2, 7, 8, 10, 11, 12, 13] 3 rfl rfl ?_)
          simp only [go_sem]
          exact Fits.rfl
  clear hK8
  by_cases ha : a ∈ idsOf ss
  · have c29 := c29 ha
    have g1 : decide (ndI ss a < 0) = false := by rw [decide_eq_false_iff_not, ndI_neg]; exact fun h => h ha
    repeat' (first | refine W.seq fun K hK => ?_ | refine W.block ?_ | ((first | refine wR ?_ | refine wD ?_ | refine W.skip ?_ | refine W.exit ?_ | refine W.ret (Post.ret ?_) | refine aP ?_ | refine aF ?_); simp only [go_sem, reduceCtorEq, g1]) | refine wT ?_ | refine wF ?_ | refine wC (fun h => ?_) (fun h => ?_) | refine iK ?_ | refine aI2 ?_ | (refine hK _ ?_; clear hK K) | clear hK K)
    refine hJ _ ?_
    refine Fits.fit [(9, 0)] [1, 2, 7, 8, 10] 1 rfl rfl ?_
    simp only [go_sem]
    exact Fits.rfl
  · clear c29
    have g1 : decide (ndI ss a < 0) = true := by rw [decide_eq_true_eq, ndI_neg]; exact ha
    have g2 : decide (((([] : List Int).length : Nat) : Int) > 0) = false := by decide
    obtain rfl := hsb ha
    repeat' (first | refine W.seq fun K hK => ?_ | refine W.block ?_ | ((first | refine wR ?_ | refine wD ?_ | refine W.skip ?_ | refine W.exit ?_ | refine W.ret (Post.ret ?_) | refine aP ?_ | refine aF ?_); simp only [go_sem, reduceCtorEq, g1, g2, List.map, List.length_map]) | refine wT ?_ | refine wF ?_ | refine wC (fun h => ?_) (fun h => ?_) | refine iK ?_ | refine aI2 ?_ | (refine hK _ ?_; clear hK K) | clear hK K)
    refine hJ _ ?_
    refine Fits.fit [(9, 0)] [1, 2, 7, 8, 10] 1 rfl rfl ?_
    simp only [go_sem]
    exact Fits.rfl
end Go.Proofs.YtigenjeealkdlaaGreat
namespace Go.Proofs.YtigenjeealkdlaaGreat
open Go.ChangeShapes Go.WideShapes Go.ChangeAt Go.RowKit Go.Exe
theorem Tryz.own : ownKnob Tryz.prog.godebug = none := by kernel_rfl
theorem Tryz.laidOut : laidOutB Tryz.prog = true := by kernel_rfl
theorem under4 : Tryz.prog.underlying 4 = some .bool := by kernel_rfl
theorem el23 : EL Tryz.prog 23 = some 93 := by kernel_rfl
/-! ### families that came in -/
theorem fm_in {f : Nat} {xs : List AV} (h : Typ Tryz.prog (f + 2) 93 xs) : ∃ q : Fm, FmOk q ∧ xs = famA q := by
  obtain ⟨offs, rfl, hol, ho⟩ := Typ.arr (n := 4) (e := 5) (by kernel_rfl) h
  match offs, hol with
  | [q1, q2, q3, q4], _ =>
    obtain ⟨a, rfl, ha⟩ := Typ.u8 tU5 (ho q1 (by simp))
    obtain ⟨b, rfl, hb⟩ := Typ.u8 tU5 (ho q2 (by simp))
    obtain ⟨c, rfl, hc⟩ := Typ.u8 tU5 (ho q3 (by simp))
    obtain ⟨d, rfl, hd⟩ := Typ.u8 tU5 (ho q4 (by simp))
    exact ⟨(a, b, c, d), ⟨ha, hb, hc, hd⟩, rfl⟩
theorem fam_in {f : Nat} {x : AV} (h : Typ Tryz.prog (f + 3) 23 [x]) : ∃ l : List Fm, (∀ q ∈ l, FmOk q) ∧ x = .sl 93 (l.map famA) := by
  obtain ⟨rows, hx, hr⟩ := Typ.sl el23 h
  cases hx
  obtain ⟨l, hl, rfl⟩ := rows_of (ok := FmOk) (enc := famA) fun r hr' => fm_in (hr r hr')
  exact ⟨l, hl, rfl⟩
end Go.Proofs.YtigenjeealkdlaaGreat
namespace Go.Proofs.YtigenjeealkdlaaGreat
open Go.ChangeShapes Go.WideShapes Go.ChangeAt Go.RowKit Go.Exe

def subtreesC : Prop := ∀ (x0 : AV) (x1 : AV) (x2 : AV), Typ Tryz.prog 6 23 [x0] → Typ Tryz.prog 6 3 [x1] → Typ Tryz.prog 6 3 [x2] → PCall Tryz.prog 6 [.c (.im x0), .c (.im x1), .c (.im x2)] (ft (.bool true))
theorem subtrees_lifted (hc : subtreesC) (os : Os) (started : os.Started) (H : Type) (enc : TypeId × Value → H) :
    ReturnsInHanded {} Tryz.checked os 6 .any (Rows.assemblySubtreesSpec.pre6 enc Tryz.prog Tryz.f6 Rows.assemblySubtreesRow.domain false) (Rows.assemblySubtreesSpec.post enc Tryz.prog Tryz.f6 false Rows.assemblySubtreesRow.fresh Rows.assemblySubtreesRow.handsOn Rows.assemblySubtreesRow.again) := by
  refine returnsInHanded_of_change_sized (C := Tryz.checked) Tryz.own started (by kernel_rfl) Tryz.func6
    (ChangeSpec.witness6 (enc := enc) (C := Tryz.checked) false ⟨#[], #[.slice none 0 0, .int .i64 0, .int .i64 0], []⟩ 8 (by kernel_rfl) (by kernel_rfl) (by kernel_rfl) (by kernel_rfl)) ?_
  intro W base args ds gs before hval0 hW _ hsz0 _
  have hsz : (DataW.weightsEach Tryz.prog (Tryz.f6.params.toList ++ Rows.assemblySubtreesSpec.plain.varTypes Tryz.prog) (ds ++ gs)).all (· ≤ reachBytes) = true := hsz0
  clear hsz0
  have hval : ∀ (j : Nat) t v, Tryz.f6.params[j]? = some t → args[j]? = some v → Value.okWide Tryz.prog W .any base t v := hval0
  have hW' := hW
  obtain ⟨p, q, hA0, hV, rfl, hfz, hnd⟩ := hW
  have hA : DataW.TrodAll enc Tryz.prog W 0 (fun _ => true) true Tryz.f6.params.toList args.toList ds p := hA0
  rw [Tryz.params6] at hA hval hsz
  obtain ⟨v0, v1, v2, d0, d1, d2, p0, p1, p2, rfl, rfl, rfl, h0, h1, h2⟩ := trodAll_three hA
  obtain ⟨rfl, rfl⟩ := trodVars_none hV
  clear hA0 hval0
  simp only [List.append_nil] at hW'
  obtain ⟨x0, r0, y0⟩ := arg_c (j := 0) 6 (by kernel_rfl) (by obtain ⟨z1, z2, z3, hz⟩ := okWide_slice rfl (hval 0 23 v0 rfl rfl); rw [hz]; rfl) h0 hsz rfl rfl
  obtain ⟨x1, r1, y1⟩ := arg_c (j := 1) 6 (by kernel_rfl) (by obtain ⟨z, hz⟩ := okWide_int rfl (hval 1 3 v1 rfl rfl); rw [hz]; rfl) h1 hsz rfl rfl
  obtain ⟨x2, r2, y2⟩ := arg_c (j := 2) 6 (by kernel_rfl) (by obtain ⟨z, hz⟩ := okWide_int rfl (hval 2 3 v2 rfl rfl); rw [hz]; rfl) h2 hsz rfl rfl
  have hlt : ∀ x ∈ p0 ++ p1 ++ p2, x.block < W.heap.size := fun x hx => by simpa using hW'.lt x hx
  have hargs : ∀ (W' : World), Below W.heap.size W W' → DataW.TrodAll enc Tryz.prog W' 0 (fun b => decide (b < W.heap.size)) true Tryz.f6.params.toList [v0, v1, v2] [d0, d1, d2] (p0 ++ p1 ++ p2) := fun W' hn => by
    have k23 : ∀ {v d ps}, DataW.Trod enc Tryz.prog W 0 (fun _ => true) true 23 v d ps → (∀ x ∈ ps, x.block < W.heap.size) → DataW.Trod enc Tryz.prog W' 0 (fun b => decide (b < W.heap.size)) true 23 v d ps :=
      fun h hl => Below.trod Tryz.laidOut (by kernel_rfl) (of_decide_eq_true (by kernel_rfl)) h hn hl
    have k3 : ∀ {v d ps}, DataW.Trod enc Tryz.prog W 0 (fun _ => true) true 3 v d ps → (∀ x ∈ ps, x.block < W.heap.size) → DataW.Trod enc Tryz.prog W' 0 (fun b => decide (b < W.heap.size)) true 3 v d ps :=
      fun h hl => Below.trod Tryz.laidOut (by kernel_rfl) (of_decide_eq_true (by kernel_rfl)) h hn hl
    rw [Tryz.params6, List.append_assoc]
    exact trodAll_mk3 (k23 h0 fun x hx => hlt x (by simp [hx])) (k3 h1 fun x hx => hlt x (by simp [hx])) (k3 h2 fun x hx => hlt x (by simp [hx]))
  have hcall := (hc x0 x1 x2 y0 y1 y2).2 (fun _ => True) W [v0, v1, v2] (Al.cons r0 (Al.cons r1 (Al.cons r2 Al.nil)))
  refine hcall.mono fun e W' ⟨v, he, ⟨hB, _⟩, hr⟩ => ?_
  subst he
  obtain rfl : v = .bool true := RepA.flat_eq hr
  refine ⟨_, rfl, _, _, _, [], p0 ++ p1 ++ p2, [], hW', ?_, ?_, ?_, hB.frame _, fun h => by cases h⟩
  · exact trodAll_mk1 (shut_bool under4 true)
  · exact hargs W' hB
  · rfl
theorem subtrees_holds (hc : subtreesC) : Rows.AssemblySubtreesSaid :=
  OpenClaim.holds_of_wide 6 Tryz.f6 rfl rfl rfl rfl rfl rfl rfl ⟨rfl, rfl, rfl, rfl, rfl⟩ rfl rfl rfl rfl rfl (by kernel_rfl) Tryz.func6 (by kernel_rfl)
    (of_decide_eq_true (by kernel_rfl)) (by unfold Func.isWrapper; rw [if_neg (by decide +kernel)]; exact ⟨rfl, rfl⟩)
    (fun os started H enc _ => subtrees_lifted hc os started H enc)
end Go.Proofs.YtigenjeealkdlaaGreat
namespace Go.Proofs.YtigenjeealkdlaaGreat
open Go.RowKit Go.Exe
theorem ytigenjeealkdlaagreat_assemblySubtrees_holds : Rows.AssemblySubtreesSaid := subtrees_holds fun x0 x1 x2 h0 h1 h2 => by
  obtain ⟨l, hl, rfl⟩ := fam_in (f := 3) h0
  obtain ⟨a, ha, m1, m2⟩ := Typ.int (f := 5) tU3 h1
  obtain ⟨b, hb, _⟩ := Typ.int (f := 5) tU3 h2
  simp [IntKind.min, IntKind.max, IntKind.signed, IntKind.bits] at m1 m2
  cases ha
  cases hb
  exact subtrees_c sort144_c sort85_c grow84_c grow122_c l hl a b ⟨m1, m2⟩
end Go.Proofs.YtigenjeealkdlaaGreat
