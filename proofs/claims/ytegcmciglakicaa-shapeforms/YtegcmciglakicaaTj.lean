import Derived.Test.YtegcmciglakicaaTi
namespace Go.Proofs.Ytegcmciglakicaa
open Go.RowKit Go.Exe
set_option linter.unusedVariables false
set_option linter.unusedSimpArgs false
set_option maxHeartbeats 1000000
set_option maxRecDepth 100000

theorem leaf_c (s : ByteArray) : PCall Try.prog 32 [ft (.string s)] (shT (.mk s ⟨#[103, 101, 116]⟩ [])) := by
  refine PCall.conv (args' := [ft (.string s)]) (r' := .g [fl (.string s), fl (.string ⟨#[103, 101, 116]⟩), fl (.slice none 0 0)]) ?_ (Al.refl (fun _ => TLe.rfl) _) (TLe.g (Al.cons CLe.rfl (Al.cons CLe.rfl (Al.cons CLe.nil Al.nil))))
  refine PCall.intro (nt := 5) (rs := [.cell 2 27]) Try.func32 rfl ⟨by kernel_rfl, by kernel_rfl, by kernel_rfl⟩ (by simp) ?_
  rintro ⟨P, w0, ok0, may, np, pblk⟩ rfl rfl
  repeat' (first
    | (refine W.ret (Post.ret ?_); simp only [go_sem])
    | (refine W.exit ?_; simp only [go_sem])
    | (refine W.skip ?_; simp only [go_sem])
    | refine W.block ?_
    | (refine W.reg rfl ?_; simp only [go_sem])
    | (refine W.regD Try_mo rfl rfl ?_; simp only [go_sem])
    | (refine W.seq fun K hK => ?_)
    | (refine AX.pcall rfl rfl rfl (by solve_by_elim) rfl rfl ?_; simp only [go_sem])
    | (refine AX.pcallF rfl rfl rfl rfl (by solve_by_elim) rfl rfl ?_; simp only [go_sem])
    | refine W.condT rfl ?_
    | refine W.condF rfl ?_
    | refine W.cond rfl (fun h => ?_) (fun h => ?_)
    | (refine hK _ ?_; clear hK K)
    | (clear hK K; refine hK _ ?_; clear hK K)
    | (clear hK K; clear hK K; refine hK _ ?_; clear hK K)
    | (clear hK K; clear hK K; clear hK K; refine hK _ ?_; clear hK K)
    | refine And.intro (by first | rfl | omega | assumption | (simp; omega)) ?_
    | fail)
mutual
def Shp.size : Shp → Nat
  | .mk _ _ ks => 1 + sizes ks
def sizes : List Shp → Nat
  | [] => 0
  | x :: r => x.size + sizes r
end
mutual
def Shp.depth : Shp → Nat
  | .mk _ _ ks => depths ks + 1
def depths : List Shp → Nat
  | [] => 0
  | x :: r => max x.depth (depths r)
end
theorem sizes_app (a b : List Shp) : sizes (a ++ b) = sizes a + sizes b := by
  induction a with
  | nil => simp [sizes]
  | cons x r ih => simp [sizes, ih]; omega
theorem sizes_take (l : List Shp) (i : Nat) : sizes (l.take i) ≤ sizes l := by
  conv => rhs; rw [← List.take_append_drop i l, sizes_app]
  omega
theorem sizes_at {l : List Shp} {i : Nat} {x : Shp} (h : l[i]? = some x) : sizes (l.take (i + 1)) = sizes (l.take i) + x.size := by
  rw [take_at h, sizes_app]; simp [sizes]
theorem sizes_mem {l : List Shp} {x : Shp} (h : x ∈ l) : x.size ≤ sizes l := by
  induction l with
  | nil => cases h
  | cons y r ih =>
    simp only [sizes]
    rcases List.mem_cons.1 h with rfl | h
    · omega
    · have := ih h; omega
theorem Size_c (s o : ByteArray) (ks : List Shp) (hsz : (Shp.mk s o ks).size ≤ 9223372036854775807) (ih : ∀ x ∈ ks, PCall Try.prog 16 [shT x] (ft (.int .i64 x.size))) :
    PCall Try.prog 16 [shT (.mk s o ks)] (ft (.int .i64 (Shp.mk s o ks).size)) := by
  simp only [Shp.size] at hsz
  simp only [shT, Shp.av, List.map, Shp.size]
  refine PCall.intro (nt := 19) (rs := [.tmp 2]) Try.func16 rfl ⟨by kernel_rfl, by kernel_rfl, by kernel_rfl⟩ (by simp) ?_
  rintro ⟨P, w0, ok0, may, np, pblk⟩ rfl rfl
  repeat' (first
    | (refine W.ret (Post.ret ?_); simp only [go_sem, avs_len])
    | (refine W.exit ?_; simp only [go_sem])
    | (refine W.skip ?_; simp only [go_sem])
    | refine W.block ?_
    | (refine W.reg rfl ?_; simp only [go_sem, avs_len])
    | (refine W.regD Try_mo rfl rfl ?_; simp only [go_sem, avs_len])
    | (refine W.seq fun K hK => ?_)
    | (refine AX.pcall rfl rfl rfl (by solve_by_elim) rfl rfl ?_; simp only [go_sem, avs_len])
    | (refine AX.pcallF rfl rfl rfl rfl (by solve_by_elim) rfl rfl ?_; simp only [go_sem, avs_len])
    | refine W.condT rfl ?_
    | refine W.condF rfl ?_
    | refine W.cond rfl (fun h => ?_) (fun h => ?_)
    | (refine hK _ ?_; clear hK K)
    | (clear hK K; refine hK _ ?_; clear hK K)
    | (clear hK K; clear hK K; refine hK _ ?_; clear hK K)
    | (clear hK K; clear hK K; clear hK K; refine hK _ ?_; clear hK K)
    | refine And.intro (by first | rfl | omega | assumption | (simp; omega)) ?_
    | fail)
  refine W.lenB 7 rfl tE27 fun hlen hbytes => ?_
  rw [avs_len, maxLen_is] at hlen
  refine W.loopF (T := fun i : Nat => { t := [(3, ft (.int .i64 ((1 + sizes (ks.take i) : Nat) : Int))), (7, .c (.im (.sl 27 (avs ks)))), (8, ft (.int .i64 ks.length)), (9, ft (.int .i64 (i : Nat)))], h := [], nx := 0, ex := [], nt := 19 })
    (Inv := fun i => i ≤ ks.length) (μ := fun i => ks.length - i) (x0 := 0) (Fits.fit [] [3, 7, 8, 9] 0 rfl rfl ?_) (Nat.zero_le _) ?_
  · simp only [go_sem]
    exact Fits.rfl
  intro i hi KL hKL
  by_cases hlt : i < ks.length
  · obtain ⟨⟨s', o', ks'⟩, hx, hm, hd⟩ := drop_at hlt
    have e1 : decide ((i : Int) < ks.length) = true := by simp; omega
    have hw := w64s i (by omega)
    have hc := ih _ hm
    have h1 := sizes_at hx
    have h2 := sizes_take ks (i + 1)
    have hw2 : IntKind.i64.wrap (((1 + sizes (ks.take i) : Nat) : Int) + ((Shp.mk s' o' ks').size : Nat)) = ((1 + sizes (ks.take (i + 1)) : Nat) : Int) := by
      rw [w64 (by omega) (by omega), h1]; omega
    simp only [shT_mk] at hc
    repeat' (first
      | (refine W.ret (Post.ret ?_); simp only [go_sem, avs_get, hx, Shp.av, e1, hw, hw2])
      | (refine W.exit ?_; simp only [go_sem])
      | (refine W.skip ?_; simp only [go_sem])
      | refine W.block ?_
      | (refine W.reg rfl ?_; simp only [go_sem, avs_get, hx, Shp.av, e1, hw, hw2])
      | (refine W.regD Try_mo rfl rfl ?_; simp only [go_sem, avs_get, hx, Shp.av, e1, hw, hw2])
      | (refine W.seq fun K hK => ?_)
      | (refine AX.pcall rfl rfl rfl (by solve_by_elim) rfl rfl ?_; simp only [go_sem, avs_get, hx, Shp.av, e1, hw, hw2])
      | (refine AX.pcallF rfl rfl rfl rfl (by solve_by_elim) rfl rfl ?_; simp only [go_sem, avs_get, hx, Shp.av, e1, hw, hw2])
      | refine W.condT rfl ?_
      | refine W.condF rfl ?_
      | refine W.cond rfl (fun h => ?_) (fun h => ?_)
      | (refine hK _ ?_; clear hK K)
      | (clear hK K; refine hK _ ?_; clear hK K)
      | (clear hK K; clear hK K; refine hK _ ?_; clear hK K)
      | (clear hK K; clear hK K; clear hK K; refine hK _ ?_; clear hK K)
      | refine And.intro (by first | rfl | omega | assumption | (simp; omega)) ?_
      | fail)
    refine hKL.to (i + 1) (by omega) (by omega) (Fits.fit [] [3, 7, 8, 9] 0 rfl rfl ?_)
    simp only [go_sem]
    exact Fits.rfl
  · have e1 : decide ((i : Int) < ks.length) = false := by simp; omega
    have hi2 : i = ks.length := by omega
    subst hi2
    clear hKL
    repeat' (first
      | (refine W.ret (Post.ret ?_); simp only [go_sem, e1])
      | (refine W.exit ?_; simp only [go_sem])
      | (refine W.skip ?_; simp only [go_sem])
      | refine W.block ?_
      | (refine W.reg rfl ?_; simp only [go_sem, e1])
      | (refine W.regD Try_mo rfl rfl ?_; simp only [go_sem, e1])
      | (refine W.seq fun K hK => ?_)
      | (refine AX.pcall rfl rfl rfl (by solve_by_elim) rfl rfl ?_; simp only [go_sem, e1])
      | (refine AX.pcallF rfl rfl rfl rfl (by solve_by_elim) rfl rfl ?_; simp only [go_sem, e1])
      | refine W.condT rfl ?_
      | refine W.condF rfl ?_
      | refine W.cond rfl (fun h => ?_) (fun h => ?_)
      | (refine hK _ ?_; clear hK K)
      | (clear hK K; refine hK _ ?_; clear hK K)
      | (clear hK K; clear hK K; refine hK _ ?_; clear hK K)
      | (clear hK K; clear hK K; clear hK K; refine hK _ ?_; clear hK K)
      | refine And.intro (by first | rfl | omega | assumption | (simp; omega)) ?_
      | fail)
    simp
end Go.Proofs.Ytegcmciglakicaa
