import Derived.Test.YtegcmciglakicaaTj
namespace Go.Proofs.Ytegcmciglakicaa
open Go.RowKit Go.Exe
set_option linter.unusedVariables false
set_option linter.unusedSimpArgs false
set_option maxHeartbeats 1000000
set_option maxRecDepth 100000

theorem size_pos (x : Shp) : 1 ≤ x.size := by cases x; simp [Shp.size]
theorem sizes_len (l : List Shp) : l.length ≤ sizes l := by
  induction l with
  | nil => simp
  | cons x r ih => have := size_pos x; simp [sizes]; omega
theorem depths_app (a b : List Shp) : depths (a ++ b) = max (depths a) (depths b) := by
  induction a with
  | nil => simp [depths]
  | cons x r ih => simp [depths, ih, Nat.max_assoc]
theorem depths_at {l : List Shp} {i : Nat} {x : Shp} (h : l[i]? = some x) : depths (l.take (i + 1)) = max (depths (l.take i)) x.depth := by
  rw [take_at h, depths_app]; simp [depths]
mutual
theorem depth_le : ∀ x : Shp, x.depth ≤ x.size
  | .mk s o ks => by have := depths_le ks; simp [Shp.size, Shp.depth]; omega
theorem depths_le : ∀ l : List Shp, depths l ≤ sizes l
  | [] => by simp [depths]
  | x :: r => by have := depth_le x; have := depths_le r; simp [depths, sizes]; omega
end
theorem max_if (a b : Nat) : (if (b : Int) > (a : Int) then (b : Int) else (a : Int)) = ((max a b : Nat) : Int) := by
  split <;> omega

theorem size_c (s o : ByteArray) (ks : List Shp) (hsz : (Shp.mk s o ks).size ≤ 9223372036854775807) (ih : ∀ x ∈ ks, PCall Try.prog 17 [shT x] (ft (.int .i64 x.size))) :
    PCall Try.prog 17 [shT (.mk s o ks)] (ft (.int .i64 (Shp.mk s o ks).size)) := by
  simp only [Shp.size] at hsz
  have hb : ks.length ≤ sizes ks := sizes_len ks
  simp only [shT, Shp.av, List.map, Shp.size]
  refine PCall.intro (nt := 21) (rs := [.tmp 2]) Try.func17 rfl ⟨by kernel_rfl, by kernel_rfl, by kernel_rfl⟩ (by simp) ?_
  rintro ⟨P, w0, ok0, may, np, pblk⟩ rfl rfl
  repeat' (first
    | (refine W.ret (Post.ret ?_); simp only [go_sem, avs_len])
    | (refine W.exit ?_; simp only [go_sem])
    | (refine W.skip ?_; simp only [go_sem])
    | refine W.block ?_
    | (refine W.reg rfl ?_; simp only [go_sem, avs_len])
    | (refine W.regD Try_mo rfl rfl ?_; simp only [go_sem, avs_len])
    | (refine W.seq fun K hK => ?_)
    | (refine AX.pcall rfl rfl rfl (by solve_by_elim) rfl rfl ?_; simp only [go_sem, avs_len])
    | (refine AX.pcallF rfl rfl rfl rfl (by solve_by_elim) rfl rfl ?_; simp only [go_sem, avs_len])
    | refine W.condT rfl ?_
    | refine W.condF rfl ?_
    | refine W.cond rfl (fun h => ?_) (fun h => ?_)
    | (refine hK _ ?_; clear hK K)
    | (clear hK K; refine hK _ ?_; clear hK K)
    | (clear hK K; clear hK K; refine hK _ ?_; clear hK K)
    | (clear hK K; clear hK K; clear hK K; refine hK _ ?_; clear hK K)
    | refine And.intro (by first | rfl | omega | assumption | (simp; omega)) ?_
    | fail)
  refine W.loopF (T := fun i : Nat => { t := [(1, .c (.ptr 0 0)), (3, ft (.int .i64 ((1 + sizes (ks.take i) : Nat) : Int))), (4, ft (.int .i64 (i : Nat)))], h := [(0, .box 27 [fl (.string s), fl (.string o), .im (.sl 27 (avs ks))])], nx := 1, ex := [], nt := 21 })
    (Inv := fun i => i ≤ ks.length) (μ := fun i => ks.length - i) (x0 := 0) (Fits.fit [(0, 0)] [1, 3, 4] 1 rfl rfl ?_) (Nat.zero_le _) ?_
  · simp only [go_sem]
    exact Fits.rfl
  intro i hi KL hKL
  by_cases hlt : i < ks.length
  · obtain ⟨⟨s', o', ks'⟩, hx, hm, hd⟩ := drop_at hlt
    have e1 : decide ((i : Int) < ks.length) = true := by simp; omega
    have hw := w64s i (by omega)
    have hc := ih _ hm
    have h1 := sizes_at hx
    have h2 := sizes_take ks (i + 1)
    have hw2 : IntKind.i64.wrap (((1 + sizes (ks.take i) : Nat) : Int) + ((Shp.mk s' o' ks').size : Nat)) = ((1 + sizes (ks.take (i + 1)) : Nat) : Int) := by
      rw [w64 (by omega) (by omega), h1]; omega
    simp only [shT_mk] at hc
    repeat' (first
      | (refine W.ret (Post.ret ?_); simp only [go_sem, avs_len, avs_get, hx, Shp.av, e1, hw, hw2])
      | (refine W.exit ?_; simp only [go_sem])
      | (refine W.skip ?_; simp only [go_sem])
      | refine W.block ?_
      | (refine W.reg rfl ?_; simp only [go_sem, avs_len, avs_get, hx, Shp.av, e1, hw, hw2])
      | (refine W.regD Try_mo rfl rfl ?_; simp only [go_sem, avs_len, avs_get, hx, Shp.av, e1, hw, hw2])
      | (refine W.seq fun K hK => ?_)
      | (refine AX.pcall rfl rfl rfl (by solve_by_elim) rfl rfl ?_; simp only [go_sem, avs_len, avs_get, hx, Shp.av, e1, hw, hw2])
      | (refine AX.pcallF rfl rfl rfl rfl (by solve_by_elim) rfl rfl ?_; simp only [go_sem, avs_len, avs_get, hx, Shp.av, e1, hw, hw2])
      | refine W.condT rfl ?_
      | refine W.condF rfl ?_
      | refine W.cond rfl (fun h => ?_) (fun h => ?_)
      | (refine hK _ ?_; clear hK K)
      | (clear hK K; refine hK _ ?_; clear hK K)
      | (clear hK K; clear hK K; refine hK _ ?_; clear hK K)
      | (clear hK K; clear hK K; clear hK K; refine hK _ ?_; clear hK K)
      | refine And.intro (by first | rfl | omega | assumption | (simp; omega)) ?_
      | fail)
    refine hKL.to (i + 1) (by omega) (by omega) (Fits.fit [(0, 0)] [1, 3, 4] 1 rfl rfl ?_)
    simp only [go_sem]
    exact Fits.rfl
  · have e1 : decide ((i : Int) < ks.length) = false := by simp; omega
    have hi2 : i = ks.length := by omega
    subst hi2
    clear hKL
    repeat' (first
      | (refine W.ret (Post.ret ?_); simp only [go_sem, avs_len, e1])
      | (refine W.exit ?_; simp only [go_sem])
      | (refine W.skip ?_; simp only [go_sem])
      | refine W.block ?_
      | (refine W.reg rfl ?_; simp only [go_sem, avs_len, e1])
      | (refine W.regD Try_mo rfl rfl ?_; simp only [go_sem, avs_len, e1])
      | (refine W.seq fun K hK => ?_)
      | (refine AX.pcall rfl rfl rfl (by solve_by_elim) rfl rfl ?_; simp only [go_sem, avs_len, e1])
      | (refine AX.pcallF rfl rfl rfl rfl (by solve_by_elim) rfl rfl ?_; simp only [go_sem, avs_len, e1])
      | refine W.condT rfl ?_
      | refine W.condF rfl ?_
      | refine W.cond rfl (fun h => ?_) (fun h => ?_)
      | (refine hK _ ?_; clear hK K)
      | (clear hK K; refine hK _ ?_; clear hK K)
      | (clear hK K; clear hK K; refine hK _ ?_; clear hK K)
      | (clear hK K; clear hK K; clear hK K; refine hK _ ?_; clear hK K)
      | refine And.intro (by first | rfl | omega | assumption | (simp; omega)) ?_
      | fail)
    simp

theorem Depth_c (s o : ByteArray) (ks : List Shp) (hsz : (Shp.mk s o ks).size ≤ 9223372036854775807) (ih : ∀ x ∈ ks, PCall Try.prog 18 [shT x] (ft (.int .i64 x.depth))) :
    PCall Try.prog 18 [shT (.mk s o ks)] (ft (.int .i64 (Shp.mk s o ks).depth)) := by
  have hdp := depth_le (.mk s o ks)
  simp only [Shp.size] at hsz
  simp only [Shp.size, Shp.depth] at hdp
  have hb : ks.length ≤ sizes ks := sizes_len ks
  simp only [shT, Shp.av, List.map, Shp.depth]
  refine PCall.intro (nt := 20) (rs := [.tmp 2]) Try.func18 rfl ⟨by kernel_rfl, by kernel_rfl, by kernel_rfl⟩ (by simp) ?_
  rintro ⟨P, w0, ok0, may, np, pblk⟩ rfl rfl
  repeat' (first
    | (refine W.ret (Post.ret ?_); simp only [go_sem, avs_len])
    | (refine W.exit ?_; simp only [go_sem])
    | (refine W.skip ?_; simp only [go_sem])
    | refine W.block ?_
    | (refine W.reg rfl ?_; simp only [go_sem, avs_len])
    | (refine W.regD Try_mo rfl rfl ?_; simp only [go_sem, avs_len])
    | (refine W.seq fun K hK => ?_)
    | (refine AX.pcall rfl rfl rfl (by solve_by_elim) rfl rfl ?_; simp only [go_sem, avs_len])
    | (refine AX.pcallF rfl rfl rfl rfl (by solve_by_elim) rfl rfl ?_; simp only [go_sem, avs_len])
    | refine W.condT rfl ?_
    | refine W.condF rfl ?_
    | refine W.cond rfl (fun h => ?_) (fun h => ?_)
    | (refine hK _ ?_; clear hK K)
    | (clear hK K; refine hK _ ?_; clear hK K)
    | (clear hK K; clear hK K; refine hK _ ?_; clear hK K)
    | (clear hK K; clear hK K; clear hK K; refine hK _ ?_; clear hK K)
    | refine And.intro (by first | rfl | omega | assumption | (simp; omega)) ?_
    | fail)
  refine W.loopF (T := fun i : Nat => { t := [(3, ft (.int .i64 (depths (ks.take i) : Nat))), (7, .c (.im (.sl 27 (avs ks)))), (8, ft (.int .i64 ks.length)), (9, ft (.int .i64 (i : Nat)))], h := [], nx := 0, ex := [], nt := 20 })
    (Inv := fun i => i ≤ ks.length) (μ := fun i => ks.length - i) (x0 := 0) (Fits.fit [] [3, 7, 8, 9] 0 rfl rfl ?_) (Nat.zero_le _) ?_
  · simp only [go_sem]
    exact Fits.rfl
  intro i hi KL hKL
  by_cases hlt : i < ks.length
  · obtain ⟨⟨s', o', ks'⟩, hx, hm, hd⟩ := drop_at hlt
    have e1 : decide ((i : Int) < ks.length) = true := by simp; omega
    have hw := w64s i (by omega)
    have hc := ih _ hm
    have h1 := depths_at hx
    simp only [shT_mk] at hc
    repeat' (first
      | (refine W.ret (Post.ret ?_); simp only [go_sem, avs_len, avs_get, hx, Shp.av, e1, hw])
      | (refine W.exit ?_; simp only [go_sem])
      | (refine W.skip ?_; simp only [go_sem])
      | refine W.block ?_
      | (refine W.reg rfl ?_; simp only [go_sem, avs_len, avs_get, hx, Shp.av, e1, hw])
      | (refine W.regD Try_mo rfl rfl ?_; simp only [go_sem, avs_len, avs_get, hx, Shp.av, e1, hw])
      | (refine W.seq fun K hK => ?_)
      | (refine AX.pcall rfl rfl rfl (by solve_by_elim) rfl rfl ?_; simp only [go_sem, avs_len, avs_get, hx, Shp.av, e1, hw])
      | (refine AX.pcallF rfl rfl rfl rfl (by solve_by_elim) rfl rfl ?_; simp only [go_sem, avs_len, avs_get, hx, Shp.av, e1, hw])
      | refine W.condT rfl ?_
      | refine W.condF rfl ?_
      | refine W.cond rfl (fun h => ?_) (fun h => ?_)
      | (refine hK _ ?_; clear hK K)
      | (clear hK K; refine hK _ ?_; clear hK K)
      | (clear hK K; clear hK K; refine hK _ ?_; clear hK K)
      | (clear hK K; clear hK K; clear hK K; refine hK _ ?_; clear hK K)
      | refine And.intro (by first | rfl | omega | assumption | (simp; omega)) ?_
      | fail)
    refine hKL.to (i + 1) (by omega) (by omega) (Fits.fit [] [3, 7, 8, 9] 0 rfl rfl ?_)
    simp only [go_sem, h1, max_if]
    exact Fits.rfl
  · have e1 : decide ((i : Int) < ks.length) = false := by simp; omega
    have hi2 : i = ks.length := by omega
    subst hi2
    clear hKL
    have hw : IntKind.i64.wrap ((depths ks : Int) + 1) = ((depths ks + 1 : Nat) : Int) := w64s _ (by omega)
    repeat' (first
      | (refine W.ret (Post.ret ?_); simp only [go_sem, avs_len, e1, List.take_length, hw])
      | (refine W.exit ?_; simp only [go_sem])
      | (refine W.skip ?_; simp only [go_sem])
      | refine W.block ?_
      | (refine W.reg rfl ?_; simp only [go_sem, avs_len, e1, List.take_length, hw])
      | (refine W.regD Try_mo rfl rfl ?_; simp only [go_sem, avs_len, e1, List.take_length, hw])
      | (refine W.seq fun K hK => ?_)
      | (refine AX.pcall rfl rfl rfl (by solve_by_elim) rfl rfl ?_; simp only [go_sem, avs_len, e1, List.take_length, hw])
      | (refine AX.pcallF rfl rfl rfl rfl (by solve_by_elim) rfl rfl ?_; simp only [go_sem, avs_len, e1, List.take_length, hw])
      | refine W.condT rfl ?_
      | refine W.condF rfl ?_
      | refine W.cond rfl (fun h => ?_) (fun h => ?_)
      | (refine hK _ ?_; clear hK K)
      | (clear hK K; refine hK _ ?_; clear hK K)
      | (clear hK K; clear hK K; refine hK _ ?_; clear hK K)
      | (clear hK K; clear hK K; clear hK K; refine hK _ ?_; clear hK K)
      | refine And.intro (by first | rfl | omega | assumption | (simp; omega)) ?_
      | fail)

theorem depth_c (s o : ByteArray) (ks : List Shp) (hsz : (Shp.mk s o ks).size ≤ 9223372036854775807) (ih : ∀ x ∈ ks, PCall Try.prog 19 [shT x] (ft (.int .i64 x.depth))) :
    PCall Try.prog 19 [shT (.mk s o ks)] (ft (.int .i64 (Shp.mk s o ks).depth)) := by
  have hdp := depth_le (.mk s o ks)
  simp only [Shp.size] at hsz
  simp only [Shp.size, Shp.depth] at hdp
  have hb : ks.length ≤ sizes ks := sizes_len ks
  simp only [shT, Shp.av, List.map, Shp.depth]
  refine PCall.intro (nt := 22) (rs := [.tmp 2]) Try.func19 rfl ⟨by kernel_rfl, by kernel_rfl, by kernel_rfl⟩ (by simp) ?_
  rintro ⟨P, w0, ok0, may, np, pblk⟩ rfl rfl
  repeat' (first
    | (refine W.ret (Post.ret ?_); simp only [go_sem, avs_len])
    | (refine W.exit ?_; simp only [go_sem])
    | (refine W.skip ?_; simp only [go_sem])
    | refine W.block ?_
    | (refine W.reg rfl ?_; simp only [go_sem, avs_len])
    | (refine W.regD Try_mo rfl rfl ?_; simp only [go_sem, avs_len])
    | (refine W.seq fun K hK => ?_)
    | (refine AX.pcall rfl rfl rfl (by solve_by_elim) rfl rfl ?_; simp only [go_sem, avs_len])
    | (refine AX.pcallF rfl rfl rfl rfl (by solve_by_elim) rfl rfl ?_; simp only [go_sem, avs_len])
    | refine W.condT rfl ?_
    | refine W.condF rfl ?_
    | refine W.cond rfl (fun h => ?_) (fun h => ?_)
    | (refine hK _ ?_; clear hK K)
    | (clear hK K; refine hK _ ?_; clear hK K)
    | (clear hK K; clear hK K; refine hK _ ?_; clear hK K)
    | (clear hK K; clear hK K; clear hK K; refine hK _ ?_; clear hK K)
    | refine And.intro (by first | rfl | omega | assumption | (simp; omega)) ?_
    | fail)
  refine W.loopF (T := fun i : Nat => { t := [(1, .c (.ptr 0 0)), (3, ft (.int .i64 (depths (ks.take i) : Nat))), (4, ft (.int .i64 (i : Nat)))], h := [(0, .box 27 [fl (.string s), fl (.string o), .im (.sl 27 (avs ks))])], nx := 1, ex := [], nt := 22 })
    (Inv := fun i => i ≤ ks.length) (μ := fun i => ks.length - i) (x0 := 0) (Fits.fit [(0, 0)] [1, 3, 4] 1 rfl rfl ?_) (Nat.zero_le _) ?_
  · simp only [go_sem]
    exact Fits.rfl
  intro i hi KL hKL
  by_cases hlt : i < ks.length
  · obtain ⟨⟨s', o', ks'⟩, hx, hm, hd⟩ := drop_at hlt
    have e1 : decide ((i : Int) < ks.length) = true := by simp; omega
    have hw := w64s i (by omega)
    have hc := ih _ hm
    have h1 := depths_at hx
    simp only [shT_mk] at hc
    repeat' (first
      | (refine W.ret (Post.ret ?_); simp only [go_sem, avs_len, avs_get, hx, Shp.av, e1, hw])
      | (refine W.exit ?_; simp only [go_sem])
      | (refine W.skip ?_; simp only [go_sem])
      | refine W.block ?_
      | (refine W.reg rfl ?_; simp only [go_sem, avs_len, avs_get, hx, Shp.av, e1, hw])
      | (refine W.regD Try_mo rfl rfl ?_; simp only [go_sem, avs_len, avs_get, hx, Shp.av, e1, hw])
      | (refine W.seq fun K hK => ?_)
      | (refine AX.pcall rfl rfl rfl (by solve_by_elim) rfl rfl ?_; simp only [go_sem, avs_len, avs_get, hx, Shp.av, e1, hw])
      | (refine AX.pcallF rfl rfl rfl rfl (by solve_by_elim) rfl rfl ?_; simp only [go_sem, avs_len, avs_get, hx, Shp.av, e1, hw])
      | refine W.condT rfl ?_
      | refine W.condF rfl ?_
      | refine W.cond rfl (fun h => ?_) (fun h => ?_)
      | (refine hK _ ?_; clear hK K)
      | (clear hK K; refine hK _ ?_; clear hK K)
      | (clear hK K; clear hK K; refine hK _ ?_; clear hK K)
      | (clear hK K; clear hK K; clear hK K; refine hK _ ?_; clear hK K)
      | refine And.intro (by first | rfl | omega | assumption | (simp; omega)) ?_
      | fail)
    refine hKL.to (i + 1) (by omega) (by omega) (Fits.fit [(0, 0)] [1, 3, 4] 1 rfl rfl ?_)
    simp only [go_sem, h1, max_if]
    exact Fits.rfl
  · have e1 : decide ((i : Int) < ks.length) = false := by simp; omega
    have hi2 : i = ks.length := by omega
    subst hi2
    clear hKL
    have hw : IntKind.i64.wrap ((depths ks : Int) + 1) = ((depths ks + 1 : Nat) : Int) := w64s _ (by omega)
    repeat' (first
      | (refine W.ret (Post.ret ?_); simp only [go_sem, avs_len, e1, List.take_length, hw])
      | (refine W.exit ?_; simp only [go_sem])
      | (refine W.skip ?_; simp only [go_sem])
      | refine W.block ?_
      | (refine W.reg rfl ?_; simp only [go_sem, avs_len, e1, List.take_length, hw])
      | (refine W.regD Try_mo rfl rfl ?_; simp only [go_sem, avs_len, e1, List.take_length, hw])
      | (refine W.seq fun K hK => ?_)
      | (refine AX.pcall rfl rfl rfl (by solve_by_elim) rfl rfl ?_; simp only [go_sem, avs_len, e1, List.take_length, hw])
      | (refine AX.pcallF rfl rfl rfl rfl (by solve_by_elim) rfl rfl ?_; simp only [go_sem, avs_len, e1, List.take_length, hw])
      | refine W.condT rfl ?_
      | refine W.condF rfl ?_
      | refine W.cond rfl (fun h => ?_) (fun h => ?_)
      | (refine hK _ ?_; clear hK K)
      | (clear hK K; refine hK _ ?_; clear hK K)
      | (clear hK K; clear hK K; refine hK _ ?_; clear hK K)
      | (clear hK K; clear hK K; clear hK K; refine hK _ ?_; clear hK K)
      | refine And.intro (by first | rfl | omega | assumption | (simp; omega)) ?_
      | fail)

end Go.Proofs.Ytegcmciglakicaa
