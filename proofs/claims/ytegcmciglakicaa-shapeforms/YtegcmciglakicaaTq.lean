import Derived.Test.YtegcmciglakicaaTo
namespace Go.Proofs.Ytegcmciglakicaa
open Go.RowKit Go.Exe
set_option linter.unusedVariables false
set_option linter.unusedSimpArgs false
set_option maxHeartbeats 1000000
set_option maxRecDepth 100000

def growT (f : Nat) (p : List Nat) : TV := .t [(true, (growF f p).1.av.map .im), (false, [.im (.sl 5 ((growF f p).2.map bA))])]
theorem grow_nil (f : Nat) : PCall Try.prog 33 [planT []] (growT f []) := by
  have hg : growF f [] = (.mk .empty .empty [], []) := by cases f <;> simp [growF]
  simp only [growT, hg, planT, Shp.av, List.map, avs]
  refine PCall.conv (args' := [.c (.im (.sl 5 []))]) (r' := .t [(true, [fl (.string .empty), fl (.string .empty), fl (.slice none 0 0)]), (false, [.im (.sl 5 [])])]) ?_ (Al.refl (fun _ => TLe.rfl) _) (TLe.t (Al.cons ⟨rfl, Al.cons CLe.rfl (Al.cons CLe.rfl (Al.cons CLe.nil Al.nil))⟩ (Al.cons ⟨rfl, Al.cons CLe.rfl Al.nil⟩ Al.nil)))
  have e0 : (((0 : Nat) : Int) == 0) = true := rfl
  refine PCall.intro (nt := 61) (rs := [.cell 2 27, .tmp 3]) Try.func33 rfl ⟨by kernel_rfl, by kernel_rfl, by kernel_rfl⟩ (by simp) ?_
  rintro ⟨P, w0, ok0, may, np, pblk⟩ rfl rfl
  repeat' (first
    | (refine W.ret (Post.ret ?_); simp only [go_sem, e0])
    | (refine W.exit ?_; simp only [go_sem])
    | (refine W.skip ?_; simp only [go_sem])
    | refine W.block ?_
    | (refine W.reg rfl ?_; simp only [go_sem, e0])
    | (refine W.regD Try_mo rfl rfl ?_; simp only [go_sem, e0])
    | (refine W.seq fun K hK => ?_)
    | (refine AX.pcall rfl rfl rfl (by solve_by_elim) rfl rfl ?_; simp only [go_sem, e0])
    | (refine AX.pcallF rfl rfl rfl rfl (by solve_by_elim) rfl rfl ?_; simp only [go_sem, e0])
    | refine W.condT rfl ?_
    | refine W.condF rfl ?_
    | refine W.cond rfl (fun h => ?_) (fun h => ?_)
    | (refine hK _ ?_; clear hK K)
    | (clear hK K; refine hK _ ?_; clear hK K)
    | (clear hK K; clear hK K; refine hK _ ?_; clear hK K)
    | (clear hK K; clear hK K; clear hK K; refine hK _ ?_; clear hK K)
    | refine And.intro (by first | rfl | omega | assumption | (simp; omega)) ?_
    | fail)
theorem grow_all : ∀ (f : Nat) (p : List Nat), p.length ≤ f → (∀ x ∈ p, x < 256) → PCall Try.prog 33 [planT p] (growT f p)
  | f, [], _, _ => grow_nil f
  | 0, _ :: _, h, _ => by simp at h
  | f + 1, b :: r, h, hx => grow_c f b r (hx b (by simp)) (fun x h => hx x (by simp [h])) fun p hp hpx => grow_all f p (by simp at h; omega) hpx
def madeP (p : List Nat) : Shp := (growF 24 (p.take 24)).1
theorem made_c (p : List Nat) (hp : ∀ x ∈ p, x < 256) : PCall Try.prog 9 [planT p] (shT (madeP p)) := by
  have hc := grow_all 24 (p.take 24) (by simp; omega) (fun x h => hp x (List.mem_of_mem_take h))
  simp only [growT, planT, madeP, shT] at hc ⊢
  generalize growF 24 (p.take 24) = g at hc ⊢
  obtain ⟨⟨sv, ov, kv⟩, l'⟩ := g
  simp only [Shp.av, List.map] at hc ⊢
  refine PCall.intro (nt := 15) (rs := [.cell 2 27]) Try.func9 rfl ⟨by kernel_rfl, by kernel_rfl, by kernel_rfl⟩ (by simp) ?_
  rintro ⟨P, w0, ok0, may, np, pblk⟩ rfl rfl
  have tk : List.take (if (24 : Int) < (p.length : Int) then (24 : Int) else (p.length : Int)).toNat (List.map bA p) = List.map bA (p.take 24) := by
    rw [List.map_take]
    split
    · rfl
    · rw [Int.toNat_natCast, List.take_of_length_le (by simp), List.take_of_length_le (by simp; omega)]
  repeat' (first
    | (refine W.ret (Post.ret ?_); simp only [go_sem, tk])
    | (refine W.exit ?_; simp only [go_sem])
    | (refine W.skip ?_; simp only [go_sem])
    | refine W.block ?_
    | (refine W.reg rfl ?_; simp only [go_sem, tk])
    | (refine W.regD Try_mo rfl rfl ?_; simp only [go_sem, tk])
    | (refine W.seq fun K hK => ?_)
    | (refine AX.pcall rfl rfl rfl (by solve_by_elim) rfl rfl ?_; simp only [go_sem, tk])
    | (refine AX.pcallF rfl rfl rfl rfl (by solve_by_elim) rfl rfl ?_; simp only [go_sem, tk])
    | refine W.condT rfl ?_
    | refine W.condF rfl ?_
    | refine W.cond rfl (fun h => ?_) (fun h => ?_)
    | (refine hK _ ?_; clear hK K)
    | (clear hK K; refine hK _ ?_; clear hK K)
    | (clear hK K; clear hK K; refine hK _ ?_; clear hK K)
    | (clear hK K; clear hK K; clear hK K; refine hK _ ?_; clear hK K)
    | refine And.intro (by first | rfl | omega | assumption | (simp; omega)) ?_
    | fail)
end Go.Proofs.Ytegcmciglakicaa
