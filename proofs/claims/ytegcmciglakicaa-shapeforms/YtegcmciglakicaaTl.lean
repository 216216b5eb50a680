import Derived.Test.YtegcmciglakicaaTk
namespace Go.Proofs.Ytegcmciglakicaa
open Go.RowKit Go.Exe
set_option linter.unusedVariables false
set_option linter.unusedSimpArgs false
set_option maxHeartbeats 1000000
set_option maxRecDepth 100000

theorem Compare_c (c12 : ∀ x : Shp, PCall Try.prog 12 [shT x] (shT x.canon)) (c34 : ∀ x y : Shp, PCall Try.prog 34 [shT x, shT y] (ft (.int .i64 (x.cmp y)))) (x y : Shp) :
    PCall Try.prog 10 [shT x, shT y] (ft (.int .i64 (x.canon.cmp y.canon))) := by
  obtain ⟨s, o, ks⟩ := x
  obtain ⟨s', o', ks'⟩ := y
  have c1 := c12 (.mk s o ks)
  have c2 := c12 (.mk s' o' ks')
  have c3 := c34 (Shp.canon (.mk s o ks)) (Shp.canon (.mk s' o' ks'))
  simp only [Shp.canon, shT_mk] at c1 c2 c3 ⊢
  refine PCall.intro (nt := 10) (rs := [.tmp 4]) Try.func10 rfl ⟨by kernel_rfl, by kernel_rfl, by kernel_rfl⟩ (by simp) ?_
  rintro ⟨P, w0, ok0, may, np, pblk⟩ rfl rfl
  repeat' (first
    | (refine W.ret (Post.ret ?_); simp only [go_sem])
    | (refine W.exit ?_; simp only [go_sem])
    | (refine W.skip ?_; simp only [go_sem])
    | refine W.block ?_
    | (refine W.reg rfl ?_; simp only [go_sem])
    | (refine W.regD Try_mo rfl rfl ?_; simp only [go_sem])
    | (refine W.seq fun K hK => ?_)
    | (refine AX.pcall rfl rfl rfl (by solve_by_elim) rfl rfl ?_; simp only [go_sem])
    | (refine AX.pcallF rfl rfl rfl rfl (by solve_by_elim) rfl rfl ?_; simp only [go_sem])
    | refine W.condT rfl ?_
    | refine W.condF rfl ?_
    | refine W.cond rfl (fun h => ?_) (fun h => ?_)
    | (refine hK _ ?_; clear hK K)
    | (clear hK K; refine hK _ ?_; clear hK K)
    | (clear hK K; clear hK K; refine hK _ ?_; clear hK K)
    | (clear hK K; clear hK K; clear hK K; refine hK _ ?_; clear hK K)
    | refine And.intro (by first | rfl | omega | assumption | (simp; omega)) ?_
    | fail)
theorem Equal_c (c10 : ∀ x y : Shp, PCall Try.prog 10 [shT x, shT y] (ft (.int .i64 (x.canon.cmp y.canon)))) (x y : Shp) :
    PCall Try.prog 15 [shT x, shT y] (ft (.bool (x.canon.cmp y.canon == 0))) := by
  obtain ⟨s, o, ks⟩ := x
  obtain ⟨s', o', ks'⟩ := y
  have c1 := c10 (.mk s o ks) (.mk s' o' ks')
  simp only [shT_mk] at c1 ⊢
  refine PCall.intro (nt := 9) (rs := [.tmp 4]) Try.func15 rfl ⟨by kernel_rfl, by kernel_rfl, by kernel_rfl⟩ (by simp) ?_
  rintro ⟨P, w0, ok0, may, np, pblk⟩ rfl rfl
  repeat' (first
    | (refine W.ret (Post.ret ?_); simp only [go_sem])
    | (refine W.exit ?_; simp only [go_sem])
    | (refine W.skip ?_; simp only [go_sem])
    | refine W.block ?_
    | (refine W.reg rfl ?_; simp only [go_sem])
    | (refine W.regD Try_mo rfl rfl ?_; simp only [go_sem])
    | (refine W.seq fun K hK => ?_)
    | (refine AX.pcall rfl rfl rfl (by solve_by_elim) rfl rfl ?_; simp only [go_sem])
    | (refine AX.pcallF rfl rfl rfl rfl (by solve_by_elim) rfl rfl ?_; simp only [go_sem])
    | refine W.condT rfl ?_
    | refine W.condF rfl ?_
    | refine W.cond rfl (fun h => ?_) (fun h => ?_)
    | (refine hK _ ?_; clear hK K)
    | (clear hK K; refine hK _ ?_; clear hK K)
    | (clear hK K; clear hK K; refine hK _ ?_; clear hK K)
    | (clear hK K; clear hK K; clear hK K; refine hK _ ?_; clear hK K)
    | refine And.intro (by first | rfl | omega | assumption | (simp; omega)) ?_
    | fail)
mutual
def Shp.same : Shp → Shp → Bool
  | .mk s o ks, .mk s' o' ks' => s.toList == s'.toList && o.toList == o'.toList && sames ks ks'
def sames : List Shp → List Shp → Bool
  | [], [] => true
  | [], _ :: _ => false
  | _ :: _, [] => false
  | x :: r, y :: q => x.same y && sames r q
end
theorem sames_len : ∀ {a b : List Shp}, a.length ≠ b.length → sames a b = false
  | [], [], h => absurd rfl h
  | [], _ :: _, _ => by simp [sames]
  | _ :: _, [], _ => by simp [sames]
  | x :: r, y :: q, h => by simp [sames, sames_len (a := r) (b := q) (by simpa using h)]
theorem same_c (s o s' o' : ByteArray) (ks ks' : List Shp) (ih : ∀ x ∈ ks, ∀ y ∈ ks', PCall Try.prog 11 [shT x, shT y] (ft (.bool (x.same y)))) :
    PCall Try.prog 11 [shT (.mk s o ks), shT (.mk s' o' ks')] (ft (.bool (Shp.same (.mk s o ks) (.mk s' o' ks')))) := by
  simp only [shT, Shp.av, List.map, Shp.same]
  refine PCall.intro (nt := 46) (rs := [.tmp 4]) Try.func11 rfl ⟨by kernel_rfl, by kernel_rfl, by kernel_rfl⟩ (by simp) ?_
  rintro ⟨P, w0, ok0, may, np, pblk⟩ rfl rfl
  cases h1 : (s.toList == s'.toList)
  · repeat' (first
      | (refine W.ret (Post.ret ?_); simp only [go_sem, avs_len, h1])
      | (refine W.exit ?_; simp only [go_sem])
      | (refine W.skip ?_; simp only [go_sem])
      | refine W.block ?_
      | (refine W.reg rfl ?_; simp only [go_sem, avs_len, h1])
      | (refine W.regD Try_mo rfl rfl ?_; simp only [go_sem, avs_len, h1])
      | (refine W.seq fun K hK => ?_)
      | (refine AX.pcall rfl rfl rfl (by solve_by_elim) rfl rfl ?_; simp only [go_sem, avs_len, h1])
      | (refine AX.pcallF rfl rfl rfl rfl (by solve_by_elim) rfl rfl ?_; simp only [go_sem, avs_len, h1])
      | refine W.condT rfl ?_
      | refine W.condF rfl ?_
      | refine W.cond rfl (fun h => ?_) (fun h => ?_)
      | (refine hK _ ?_; clear hK K)
      | (clear hK K; refine hK _ ?_; clear hK K)
      | (clear hK K; clear hK K; refine hK _ ?_; clear hK K)
      | (clear hK K; clear hK K; clear hK K; refine hK _ ?_; clear hK K)
      | refine And.intro (by first | rfl | omega | assumption | (simp; omega)) ?_
      | fail)
  cases h2 : (o.toList == o'.toList)
  · repeat' (first
      | (refine W.ret (Post.ret ?_); simp only [go_sem, avs_len, h1, h2])
      | (refine W.exit ?_; simp only [go_sem])
      | (refine W.skip ?_; simp only [go_sem])
      | refine W.block ?_
      | (refine W.reg rfl ?_; simp only [go_sem, avs_len, h1, h2])
      | (refine W.regD Try_mo rfl rfl ?_; simp only [go_sem, avs_len, h1, h2])
      | (refine W.seq fun K hK => ?_)
      | (refine AX.pcall rfl rfl rfl (by solve_by_elim) rfl rfl ?_; simp only [go_sem, avs_len, h1, h2])
      | (refine AX.pcallF rfl rfl rfl rfl (by solve_by_elim) rfl rfl ?_; simp only [go_sem, avs_len, h1, h2])
      | refine W.condT rfl ?_
      | refine W.condF rfl ?_
      | refine W.cond rfl (fun h => ?_) (fun h => ?_)
      | (refine hK _ ?_; clear hK K)
      | (clear hK K; refine hK _ ?_; clear hK K)
      | (clear hK K; clear hK K; refine hK _ ?_; clear hK K)
      | (clear hK K; clear hK K; clear hK K; refine hK _ ?_; clear hK K)
      | refine And.intro (by first | rfl | omega | assumption | (simp; omega)) ?_
      | fail)
  by_cases h3 : ks.length = ks'.length
  rotate_left
  · have h4 : ((ks.length : Int) != (ks'.length : Int)) = true := by simp; omega
    repeat' (first
      | (refine W.ret (Post.ret ?_); simp only [go_sem, avs_len, h1, h2, h4])
      | (refine W.exit ?_; simp only [go_sem])
      | (refine W.skip ?_; simp only [go_sem])
      | refine W.block ?_
      | (refine W.reg rfl ?_; simp only [go_sem, avs_len, h1, h2, h4])
      | (refine W.regD Try_mo rfl rfl ?_; simp only [go_sem, avs_len, h1, h2, h4])
      | (refine W.seq fun K hK => ?_)
      | (refine AX.pcall rfl rfl rfl (by solve_by_elim) rfl rfl ?_; simp only [go_sem, avs_len, h1, h2, h4])
      | (refine AX.pcallF rfl rfl rfl rfl (by solve_by_elim) rfl rfl ?_; simp only [go_sem, avs_len, h1, h2, h4])
      | refine W.condT rfl ?_
      | refine W.condF rfl ?_
      | refine W.cond rfl (fun h => ?_) (fun h => ?_)
      | (refine hK _ ?_; clear hK K)
      | (clear hK K; refine hK _ ?_; clear hK K)
      | (clear hK K; clear hK K; refine hK _ ?_; clear hK K)
      | (clear hK K; clear hK K; clear hK K; refine hK _ ?_; clear hK K)
      | refine And.intro (by first | rfl | omega | assumption | (simp; omega)) ?_
      | fail)
    simp [sames_len h3]
  have h4 : ((ks.length : Int) != (ks'.length : Int)) = false := by simp [h3]
  repeat' (first
    | (refine W.ret (Post.ret ?_); simp only [go_sem, avs_len, h1, h2, h4])
    | (refine W.exit ?_; simp only [go_sem])
    | (refine W.skip ?_; simp only [go_sem])
    | refine W.block ?_
    | (refine W.reg rfl ?_; simp only [go_sem, avs_len, h1, h2, h4])
    | (refine W.regD Try_mo rfl rfl ?_; simp only [go_sem, avs_len, h1, h2, h4])
    | (refine W.seq fun K hK => ?_)
    | (refine AX.pcall rfl rfl rfl (by solve_by_elim) rfl rfl ?_; simp only [go_sem, avs_len, h1, h2, h4])
    | (refine AX.pcallF rfl rfl rfl rfl (by solve_by_elim) rfl rfl ?_; simp only [go_sem, avs_len, h1, h2, h4])
    | refine W.condT rfl ?_
    | refine W.condF rfl ?_
    | refine W.cond rfl (fun h => ?_) (fun h => ?_)
    | (refine hK _ ?_; clear hK K)
    | (clear hK K; refine hK _ ?_; clear hK K)
    | (clear hK K; clear hK K; refine hK _ ?_; clear hK K)
    | (clear hK K; clear hK K; clear hK K; refine hK _ ?_; clear hK K)
    | refine And.intro (by first | rfl | omega | assumption | (simp; omega)) ?_
    | fail)
  refine W.lenB 20 rfl tE27 fun hlen hbytes => ?_
  rw [avs_len, maxLen_is] at hlen
  refine W.loopF (T := fun i : Nat => { t := [(2, .c (.ptr 0 0)), (3, .c (.ptr 1 0)), (4, ft (.bool false)), (5, ft (.int .i64 (i : Nat)))], h := [(0, .box 27 [fl (.string s), fl (.string o), .im (.sl 27 (avs ks))]), (1, .box 27 [fl (.string s'), fl (.string o'), .im (.sl 27 (avs ks'))])], nx := 2, ex := [], nt := 46 })
    (Inv := fun i => i ≤ ks.length ∧ sames ks ks' = sames (ks.drop i) (ks'.drop i)) (μ := fun i => ks.length - i) (x0 := 0) (Fits.fit [(0, 0), (1, 1)] [2, 3, 4, 5] 2 rfl rfl ?_) ⟨Nat.zero_le _, rfl⟩ ?_
  · simp only [go_sem]
    exact Fits.rfl
  rintro i ⟨hi, hinv⟩ KL hKL
  by_cases hlt : i < ks.length
  · obtain ⟨⟨s1, o1, ks1⟩, hx, hm, hd⟩ := drop_at hlt
    obtain ⟨⟨s2, o2, ks2⟩, hx', hm', hd'⟩ := drop_at (show i < ks'.length by omega)
    have e1 : decide ((i : Int) < ks.length) = true := by simp; omega
    have hw := w64s i (by omega)
    have hc := ih _ hm _ hm'
    simp only [shT_mk] at hc
    repeat' (first
      | (refine W.ret (Post.ret ?_); simp only [go_sem, avs_len, avs_get, hx, hx', Shp.av, e1, hw])
      | (refine W.exit ?_; simp only [go_sem])
      | (refine W.skip ?_; simp only [go_sem])
      | refine W.block ?_
      | (refine W.reg rfl ?_; simp only [go_sem, avs_len, avs_get, hx, hx', Shp.av, e1, hw])
      | (refine W.regD Try_mo rfl rfl ?_; simp only [go_sem, avs_len, avs_get, hx, hx', Shp.av, e1, hw])
      | (refine W.seq fun K hK => ?_)
      | (refine AX.pcall rfl rfl rfl (by solve_by_elim) rfl rfl ?_; simp only [go_sem, avs_len, avs_get, hx, hx', Shp.av, e1, hw])
      | (refine AX.pcallF rfl rfl rfl rfl (by solve_by_elim) rfl rfl ?_; simp only [go_sem, avs_len, avs_get, hx, hx', Shp.av, e1, hw])
      | refine W.condT rfl ?_
      | refine W.condF rfl ?_
      | refine W.cond rfl (fun h => ?_) (fun h => ?_)
      | (refine hK _ ?_; clear hK K)
      | (clear hK K; refine hK _ ?_; clear hK K)
      | (clear hK K; clear hK K; refine hK _ ?_; clear hK K)
      | (clear hK K; clear hK K; clear hK K; refine hK _ ?_; clear hK K)
      | refine And.intro (by first | rfl | omega | assumption | (simp; omega)) ?_
      | fail)
    · simp at h
      simp [hinv, hd, hd', sames, h]
    · refine hKL.to (i + 1) ⟨by omega, ?_⟩ (by omega) (Fits.fit [(0, 0), (1, 1)] [2, 3, 4, 5] 2 rfl rfl ?_)
      · simp at h
        simp [hinv, hd, hd', sames, h]
      · simp only [go_sem]
        exact Fits.rfl
  · have e1 : decide ((i : Int) < ks.length) = false := by simp; omega
    have hd : ks.drop i = [] := List.drop_eq_nil_of_le (by omega)
    have hd' : ks'.drop i = [] := List.drop_eq_nil_of_le (by omega)
    clear hKL
    repeat' (first
      | (refine W.ret (Post.ret ?_); simp only [go_sem, avs_len, e1])
      | (refine W.exit ?_; simp only [go_sem])
      | (refine W.skip ?_; simp only [go_sem])
      | refine W.block ?_
      | (refine W.reg rfl ?_; simp only [go_sem, avs_len, e1])
      | (refine W.regD Try_mo rfl rfl ?_; simp only [go_sem, avs_len, e1])
      | (refine W.seq fun K hK => ?_)
      | (refine AX.pcall rfl rfl rfl (by solve_by_elim) rfl rfl ?_; simp only [go_sem, avs_len, e1])
      | (refine AX.pcallF rfl rfl rfl rfl (by solve_by_elim) rfl rfl ?_; simp only [go_sem, avs_len, e1])
      | refine W.condT rfl ?_
      | refine W.condF rfl ?_
      | refine W.cond rfl (fun h => ?_) (fun h => ?_)
      | (refine hK _ ?_; clear hK K)
      | (clear hK K; refine hK _ ?_; clear hK K)
      | (clear hK K; clear hK K; refine hK _ ?_; clear hK K)
      | (clear hK K; clear hK K; clear hK K; refine hK _ ?_; clear hK K)
      | refine And.intro (by first | rfl | omega | assumption | (simp; omega)) ?_
      | fail)
    simp [hinv, hd, hd', sames]
end Go.Proofs.Ytegcmciglakicaa
