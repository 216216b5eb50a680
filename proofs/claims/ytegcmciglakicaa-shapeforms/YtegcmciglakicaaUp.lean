import Derived.Test.YtegcmciglakicaaUm
import Derived.Test.YtegcmciglakicaaRows
import Derived.ProofKit
import Derived.Carry
import Derived.SizedLaws
namespace Go.Proofs.Ytegcmciglakicaa
open Go.ChangeShapes Go.WideShapes Go.ChangeAt Go.RowKit Go.Exe
set_option maxRecDepth 100000

theorem Try.own : ownKnob Try.prog.godebug = none := by kernel_rfl
theorem Try.laidOut : laidOutB Try.prog = true := by kernel_rfl
theorem bytes5 : Try.prog.bytesOf 5 = 1 := by kernel_rfl
/-- A row of bytes that came in is a plan. -/
theorem plan_in {H : Type} {enc : TypeId × Value → H} {w : World} {base j : Nat} {v : Value} {d : DataW H} {ps : List MemPlace} {ts : List TypeId} {ds : List (DataW H)} (hok : Value.okWide Try.prog w .any base 23 v)
    (h : DataW.Trod enc Try.prog w 0 (fun _ => true) true 23 v d ps) (hsz : (DataW.weightsEach Try.prog ts ds).all (· ≤ reachBytes) = true) (ht : ts[j]? = some 23) (hd : ds[j]? = some d) :
    ∃ p : List Nat, (∀ x ∈ p, x < 256) ∧ RepT Try.prog (fun _ => True) w U0 L0 v (planT p) := by
  obtain ⟨a0, len, cap, rfl⟩ := okWide_slice Try.underlying23 hok
  obtain ⟨fuel, h⟩ := h
  rcases open_ints (k := .u8) Try.underlying23 Try.underlying5 (by kernel_rfl) h with ⟨hc, hx⟩ | ⟨a, len', cap', zs, hc, _, hl, hm, hzs, hx, hcell, hwf⟩
  · simp [Value.cells] at hc
    obtain ⟨rfl, rfl, rfl⟩ := hc
    exact ⟨[], by simp, RepA.nil⟩
  · simp [Value.cells] at hc
    obtain ⟨rfl, rfl, rfl⟩ := hc
    simp only [Prod.mk.injEq] at hx
    obtain ⟨rfl, rfl⟩ := hx
    simp only [if_true] at hzs
    have hreach : len ≤ 140737488355328 := by
      have := sized_slice hsz ht hd Try.underlying23
      rw [bytes5] at this
      simp only [lits, List.length_map, List.length_take, List.length_drop, reachBytes] at this
      omega
    have hz : ∀ n ∈ zs, 0 ≤ n ∧ n < 256 := fun n hn => by
      have := hwf n hn
      simp [Lit.wf, IntKind.min, IntKind.max, IntKind.bits, IntKind.signed] at this
      omega
    refine ⟨(zs.take len).map Int.toNat, fun x hx => ?_, ?_⟩
    · obtain ⟨n, hn, rfl⟩ := List.mem_map.1 hx
      have := hz n (List.mem_of_mem_take hn)
      omega
    · have hlen : (((zs.take len).map Int.toNat).map bA).length = len := by simp; omega
      have key := RepA.mkSl (P := Try.prog) (ok := fun _ => True) (w := w) (e := 5) (xs := ((zs.take len).map Int.toNat).map bA) (ad := a) (c := cap) (sz := 1) (bs := 1) (uss := (zs.take len).map fun n => [.int .u8 n]) tE5 (by omega) (by rw [hlen]; omega) hm (by rw [hlen]; omega)
        (fun u hu => by obtain ⟨n, _, rfl⟩ := List.mem_map.1 hu; rfl) (fun q u hq => ?_) (fun _ => trivial) ?_
      · rw [hlen] at key
        exact key
      · have hf : ((zs.take len).map fun n => [Value.int .u8 n]).flatten = (zs.take len).map fun n => Value.int .u8 n := by
          generalize zs.take len = l
          induction l with
          | nil => rfl
          | cons x r ih => simp [ih]
        rw [hf, List.getElem?_map, Option.map_eq_some_iff] at hq
        obtain ⟨n, hn, rfl⟩ := hq
        have hql : q < len := by
          have := (List.getElem?_eq_some_iff.1 hn).1
          rw [List.length_take] at this
          omega
        rw [List.getElem?_take_of_lt hql] at hn
        rw [hcell q (by omega), List.getD_eq_getElem?_getD, hn]
        rfl
      · generalize hL : zs.take len = l
        have hl2 : ∀ n ∈ l, 0 ≤ n := fun n hn => (hz n (List.mem_of_mem_take (by rw [hL]; exact hn))).1
        clear hL hlen
        induction l with
        | nil => exact Al.nil
        | cons n r ih =>
          refine Al.cons (Al.cons ?_ Al.nil) (ih fun x hx => hl2 x (List.mem_cons_of_mem _ hx))
          have : ((n.toNat : Nat) : Int) = n := Int.toNat_of_nonneg (hl2 n (by simp))
          rw [this]
          exact RepA.flat rfl
end Go.Proofs.Ytegcmciglakicaa
