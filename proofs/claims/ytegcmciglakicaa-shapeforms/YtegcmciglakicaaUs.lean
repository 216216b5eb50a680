import Derived.Test.YtegcmciglakicaaUm
import Derived.Test.YtegcmciglakicaaUn
import Derived.Test.YtegcmciglakicaaUoplain
namespace Go.Proofs.Ytegcmciglakicaa
open Go.RowKit Go.Exe
theorem aggOf {P : Program} {t : TypeId} {n : Nat} (ht : TI P t = some (true, n)) (w : World) : (isAgg t).run P w = .ok true w := by
  obtain ⟨i, d, hi, hd, hg, hn⟩ := TI_spec ht
  unfold isAgg
  simp only [Sem.run_bind, run_underlying hd, Result.andThen_ok]
  rw [← hg]
  cases d <;> rfl
theorem sizeOf_ {P : Program} {t : TypeId} {g : Bool} {n : Nat} (ht : TI P t = some (g, n)) (w : World) : (Go.sizeOf t).run P w = .ok n w := by
  obtain ⟨i, d, hi, hd, hg, hn⟩ := TI_spec ht
  simp [Go.sizeOf, typeInfo, hi, hn]
theorem sort35_c : SortC Try.prog 35 3 := sortC_of Try.sort35 3 (aggOf tI27) (sizeOf_ tI27) ⟨Try.f35, Try.func35, by kernel_rfl, by kernel_rfl⟩
theorem sort55_c : SortC Try.prog 55 2 := sortC_of Try.sort55 2 (aggOf tI38) (sizeOf_ tI38) ⟨Try.f55, Try.func55, by kernel_rfl, by kernel_rfl⟩
end Go.Proofs.Ytegcmciglakicaa
