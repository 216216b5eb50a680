import Derived.Test.YtegcmciglakicaaTl
namespace Go.Proofs.Ytegcmciglakicaa
open Go.RowKit Go.Exe
set_option linter.unusedVariables false
set_option linter.unusedSimpArgs false
set_option maxHeartbeats 1000000
set_option maxRecDepth 100000

def sgn (n : Int) : Int := if n < 0 then -1 else if n > 0 then 1 else 0
theorem sign_c (n : Int) : PCall Try.prog 37 [ft (.int .i64 n)] (ft (.int .i64 (sgn n))) := by
  refine PCall.intro (nt := 6) (rs := [.tmp 2]) Try.func37 rfl ⟨by kernel_rfl, by kernel_rfl, by kernel_rfl⟩ (by simp) ?_
  rintro ⟨P, w0, ok0, may, np, pblk⟩ rfl rfl
  repeat' (first
    | (refine W.ret (Post.ret ?_); simp only [go_sem])
    | (refine W.exit ?_; simp only [go_sem])
    | (refine W.skip ?_; simp only [go_sem])
    | refine W.block ?_
    | (refine W.reg rfl ?_; simp only [go_sem])
    | (refine W.regD Try_mo rfl rfl ?_; simp only [go_sem])
    | (refine W.seq fun K hK => ?_)
    | (refine AX.pcall rfl rfl rfl (by solve_by_elim) rfl rfl ?_; simp only [go_sem])
    | (refine AX.pcallF rfl rfl rfl rfl (by solve_by_elim) rfl rfl ?_; simp only [go_sem])
    | refine W.condT rfl ?_
    | refine W.condF rfl ?_
    | refine W.cond rfl (fun h => ?_) (fun h => ?_)
    | (refine hK _ ?_; clear hK K)
    | (clear hK K; refine hK _ ?_; clear hK K)
    | (clear hK K; clear hK K; refine hK _ ?_; clear hK K)
    | (clear hK K; clear hK K; clear hK K; refine hK _ ?_; clear hK K)
    | refine And.intro (by first | rfl | omega | assumption | (simp; omega)) ?_
    | fail)
  congr 5
  simp only [sgn]
  split <;> split <;> (try split) <;> omega
theorem mcompare_c (c37 : ∀ n : Int, PCall Try.prog 37 [ft (.int .i64 n)] (ft (.int .i64 (sgn n)))) (c36 : ∀ a b : ByteArray, PCall Try.prog 36 [ft (.string a), ft (.string b)] (ft (.int .i64 (cmpB a b))))
    (s o s' o' : ByteArray) (ks ks' : List Shp) (ih : ∀ x ∈ ks, ∀ y ∈ ks', PCall Try.prog 14 [shT x, shT y] (ft (.int .i64 (x.cmp y)))) :
    PCall Try.prog 14 [shT (.mk s o ks), shT (.mk s' o' ks')] (ft (.int .i64 (Shp.cmp (.mk s o ks) (.mk s' o' ks')))) := by
  simp only [shT, Shp.av, List.map, Shp.cmp, cmps_by]
  have hor : ∀ K : Int, (if orL [cmpB s s', cmpB o o'] ≠ 0 then orL [cmpB s s', cmpB o o'] else K) = if cmpB s s' ≠ 0 then cmpB s s' else if cmpB o o' ≠ 0 then cmpB o o' else K := by
    intro K
    by_cases h1 : cmpB s s' = 0 <;> by_cases h2 : cmpB o o' = 0 <;> simp [orL, h1, h2]
  rw [hor]
  refine PCall.intro (nt := 61) (rs := [.tmp 4]) Try.func14 rfl ⟨by kernel_rfl, by kernel_rfl, by kernel_rfl⟩ (by simp) ?_
  rintro ⟨P, w0, ok0, may, np, pblk⟩ rfl rfl
  by_cases h1 : cmpB s s' = 0
  rotate_left
  · have h1' : (cmpB s s' != 0) = true := by simp [h1]
    repeat' (first
      | (refine W.ret (Post.ret ?_); simp only [go_sem, avs_len, h1'])
      | (refine W.exit ?_; simp only [go_sem])
      | (refine W.skip ?_; simp only [go_sem])
      | refine W.block ?_
      | (refine W.reg rfl ?_; simp only [go_sem, avs_len, h1'])
      | (refine W.regD Try_mo rfl rfl ?_; simp only [go_sem, avs_len, h1'])
      | (refine W.seq fun K hK => ?_)
      | (refine AX.pcall rfl rfl rfl (by solve_by_elim) rfl rfl ?_; simp only [go_sem, avs_len, h1'])
      | (refine AX.pcallF rfl rfl rfl rfl (by solve_by_elim) rfl rfl ?_; simp only [go_sem, avs_len, h1'])
      | refine W.condT rfl ?_
      | refine W.condF rfl ?_
      | refine W.cond rfl (fun h => ?_) (fun h => ?_)
      | (refine hK _ ?_; clear hK K)
      | (clear hK K; refine hK _ ?_; clear hK K)
      | (clear hK K; clear hK K; refine hK _ ?_; clear hK K)
      | (clear hK K; clear hK K; clear hK K; refine hK _ ?_; clear hK K)
      | refine And.intro (by first | rfl | omega | assumption | (simp; omega)) ?_
      | fail)
    simp [h1]
  by_cases h2 : cmpB o o' = 0
  rotate_left
  · have h1' : (cmpB s s' != 0) = false := by simp [h1]
    have h2' : (cmpB o o' != 0) = true := by simp [h2]
    repeat' (first
      | (refine W.ret (Post.ret ?_); simp only [go_sem, avs_len, h1', h2'])
      | (refine W.exit ?_; simp only [go_sem])
      | (refine W.skip ?_; simp only [go_sem])
      | refine W.block ?_
      | (refine W.reg rfl ?_; simp only [go_sem, avs_len, h1', h2'])
      | (refine W.regD Try_mo rfl rfl ?_; simp only [go_sem, avs_len, h1', h2'])
      | (refine W.seq fun K hK => ?_)
      | (refine AX.pcall rfl rfl rfl (by solve_by_elim) rfl rfl ?_; simp only [go_sem, avs_len, h1', h2'])
      | (refine AX.pcallF rfl rfl rfl rfl (by solve_by_elim) rfl rfl ?_; simp only [go_sem, avs_len, h1', h2'])
      | refine W.condT rfl ?_
      | refine W.condF rfl ?_
      | refine W.cond rfl (fun h => ?_) (fun h => ?_)
      | (refine hK _ ?_; clear hK K)
      | (clear hK K; refine hK _ ?_; clear hK K)
      | (clear hK K; clear hK K; refine hK _ ?_; clear hK K)
      | (clear hK K; clear hK K; clear hK K; refine hK _ ?_; clear hK K)
      | refine And.intro (by first | rfl | omega | assumption | (simp; omega)) ?_
      | fail)
    simp [h1, h2]
  have h1' : (cmpB s s' != 0) = false := by simp [h1]
  have h2' : (cmpB o o' != 0) = false := by simp [h2]
  simp only [h1, h2, ne_eq, not_true_eq_false, if_false]
  repeat' (first
    | (refine W.ret (Post.ret ?_); simp only [go_sem, avs_len, h1', h2'])
    | (refine W.exit ?_; simp only [go_sem])
    | (refine W.skip ?_; simp only [go_sem])
    | refine W.block ?_
    | (refine W.reg rfl ?_; simp only [go_sem, avs_len, h1', h2'])
    | (refine W.regD Try_mo rfl rfl ?_; simp only [go_sem, avs_len, h1', h2'])
    | (refine W.seq fun K hK => ?_)
    | (refine AX.pcall rfl rfl rfl (by solve_by_elim) rfl rfl ?_; simp only [go_sem, avs_len, h1', h2'])
    | (refine AX.pcallF rfl rfl rfl rfl (by solve_by_elim) rfl rfl ?_; simp only [go_sem, avs_len, h1', h2'])
    | refine W.condT rfl ?_
    | refine W.condF rfl ?_
    | refine W.cond rfl (fun h => ?_) (fun h => ?_)
    | (refine hK _ ?_; clear hK K)
    | (clear hK K; refine hK _ ?_; clear hK K)
    | (clear hK K; clear hK K; refine hK _ ?_; clear hK K)
    | (clear hK K; clear hK K; clear hK K; refine hK _ ?_; clear hK K)
    | refine And.intro (by first | rfl | omega | assumption | (simp; omega)) ?_
    | fail)
  refine W.lenX 0 2 rfl rfl tE27 fun hlen hbytes => ?_
  refine W.lenX 1 2 rfl rfl tE27 fun hlen' hbytes' => ?_
  rw [avs_len, maxLen_is] at hlen hlen'
  refine W.loopF (T := fun i : Nat => { t := [(2, .c (.ptr 0 0)), (3, .c (.ptr 1 0)), (4, ft (.int .i64 0)), (7, ft (.int .i64 (i : Nat)))], h := [(0, .box 27 [fl (.string s), fl (.string o), .im (.sl 27 (avs ks))]), (1, .box 27 [fl (.string s'), fl (.string o'), .im (.sl 27 (avs ks'))])], nx := 2, ex := [], nt := 61 })
    (Inv := fun i => i ≤ ks.length ∧ i ≤ ks'.length ∧ cmpsBy Shp.cmp ks ks' = cmpsBy Shp.cmp (ks.drop i) (ks'.drop i)) (μ := fun i => ks.length - i) (x0 := 0) (Fits.fit [(0, 0), (1, 1)] [2, 3, 4, 7] 2 rfl rfl ?_) ⟨Nat.zero_le _, Nat.zero_le _, rfl⟩ ?_
  · simp only [go_sem]
    exact Fits.rfl
  rintro i ⟨hi, hi', hinv⟩ KL hKL
  have hw := w64s i
  by_cases hlt : i < ks.length
  rotate_left
  · have e1 : decide ((i : Int) < ks.length) = false := by simp; omega
    have hsub : IntKind.i64.wrap ((ks.length : Int) - ks'.length) = (ks.length : Int) - ks'.length := w64 (by omega) (by omega)
    have hd : ks.drop i = [] := List.drop_eq_nil_of_le (by omega)
    clear hKL
    repeat' (first
      | (refine W.ret (Post.ret ?_); simp only [go_sem, avs_len, e1, hsub])
      | (refine W.exit ?_; simp only [go_sem])
      | (refine W.skip ?_; simp only [go_sem])
      | refine W.block ?_
      | (refine W.reg rfl ?_; simp only [go_sem, avs_len, e1, hsub])
      | (refine W.regD Try_mo rfl rfl ?_; simp only [go_sem, avs_len, e1, hsub])
      | (refine W.seq fun K hK => ?_)
      | (refine AX.pcall rfl rfl rfl (by solve_by_elim) rfl rfl ?_; simp only [go_sem, avs_len, e1, hsub])
      | (refine AX.pcallF rfl rfl rfl rfl (by solve_by_elim) rfl rfl ?_; simp only [go_sem, avs_len, e1, hsub])
      | refine W.condT rfl ?_
      | refine W.condF rfl ?_
      | refine W.cond rfl (fun h => ?_) (fun h => ?_)
      | (refine hK _ ?_; clear hK K)
      | (clear hK K; refine hK _ ?_; clear hK K)
      | (clear hK K; clear hK K; refine hK _ ?_; clear hK K)
      | (clear hK K; clear hK K; clear hK K; refine hK _ ?_; clear hK K)
      | refine And.intro (by first | rfl | omega | assumption | (simp; omega)) ?_
      | fail)
    rw [hinv, hd]
    by_cases h5 : ks'.length = i
    · rw [List.drop_eq_nil_of_le (by omega)]
      simp [cmpsBy, sgn, show ks.length = ks'.length by omega]
    · obtain ⟨x, _, _, h6⟩ := drop_at (show i < ks'.length by omega)
      rw [h6]
      simp [cmpsBy, sgn, show (ks.length : Int) - ks'.length < 0 by omega]
  obtain ⟨⟨s1, o1, ks1⟩, hx, hm, hd⟩ := drop_at hlt
  have e1 : decide ((i : Int) < ks.length) = true := by simp; omega
  have hw := hw (by omega)
  by_cases hlt' : i < ks'.length
  rotate_left
  · have e2 : decide ((i : Int) < ks'.length) = false := by simp; omega
    have hsub : IntKind.i64.wrap ((ks.length : Int) - ks'.length) = (ks.length : Int) - ks'.length := w64 (by omega) (by omega)
    clear hKL
    repeat' (first
      | (refine W.ret (Post.ret ?_); simp only [go_sem, avs_len, e1, e2, hsub])
      | (refine W.exit ?_; simp only [go_sem])
      | (refine W.skip ?_; simp only [go_sem])
      | refine W.block ?_
      | (refine W.reg rfl ?_; simp only [go_sem, avs_len, e1, e2, hsub])
      | (refine W.regD Try_mo rfl rfl ?_; simp only [go_sem, avs_len, e1, e2, hsub])
      | (refine W.seq fun K hK => ?_)
      | (refine AX.pcall rfl rfl rfl (by solve_by_elim) rfl rfl ?_; simp only [go_sem, avs_len, e1, e2, hsub])
      | (refine AX.pcallF rfl rfl rfl rfl (by solve_by_elim) rfl rfl ?_; simp only [go_sem, avs_len, e1, e2, hsub])
      | refine W.condT rfl ?_
      | refine W.condF rfl ?_
      | refine W.cond rfl (fun h => ?_) (fun h => ?_)
      | (refine hK _ ?_; clear hK K)
      | (clear hK K; refine hK _ ?_; clear hK K)
      | (clear hK K; clear hK K; refine hK _ ?_; clear hK K)
      | (clear hK K; clear hK K; clear hK K; refine hK _ ?_; clear hK K)
      | refine And.intro (by first | rfl | omega | assumption | (simp; omega)) ?_
      | fail)
    rw [hinv, hd, List.drop_eq_nil_of_le (show ks'.length ≤ i by omega)]
    simp [cmpsBy, sgn, show ¬ (ks.length : Int) - ks'.length < 0 by omega, show 0 < (ks.length : Int) - ks'.length by omega]
    omega
  obtain ⟨⟨s2, o2, ks2⟩, hx', hm', hd'⟩ := drop_at hlt'
  have e2 : decide ((i : Int) < ks'.length) = true := by simp; omega
  have hc := ih _ hm _ hm'
  simp only [shT_mk] at hc
  repeat' (first
    | (refine W.ret (Post.ret ?_); simp only [go_sem, avs_len, avs_get, hx, hx', Shp.av, e1, e2, hw])
    | (refine W.exit ?_; simp only [go_sem])
    | (refine W.skip ?_; simp only [go_sem])
    | refine W.block ?_
    | (refine W.reg rfl ?_; simp only [go_sem, avs_len, avs_get, hx, hx', Shp.av, e1, e2, hw])
    | (refine W.regD Try_mo rfl rfl ?_; simp only [go_sem, avs_len, avs_get, hx, hx', Shp.av, e1, e2, hw])
    | (refine W.seq fun K hK => ?_)
    | (refine AX.pcall rfl rfl rfl (by solve_by_elim) rfl rfl ?_; simp only [go_sem, avs_len, avs_get, hx, hx', Shp.av, e1, e2, hw])
    | (refine AX.pcallF rfl rfl rfl rfl (by solve_by_elim) rfl rfl ?_; simp only [go_sem, avs_len, avs_get, hx, hx', Shp.av, e1, e2, hw])
    | refine W.condT rfl ?_
    | refine W.condF rfl ?_
    | refine W.cond rfl (fun h => ?_) (fun h => ?_)
    | (refine hK _ ?_; clear hK K)
    | (clear hK K; refine hK _ ?_; clear hK K)
    | (clear hK K; clear hK K; refine hK _ ?_; clear hK K)
    | (clear hK K; clear hK K; clear hK K; refine hK _ ?_; clear hK K)
    | refine And.intro (by first | rfl | omega | assumption | (simp; omega)) ?_
    | fail)
  · simp at h
    simp [hinv, hd, hd', cmpsBy, h]
  · refine hKL.to (i + 1) ⟨by omega, by omega, ?_⟩ (by omega) (Fits.fit [(0, 0), (1, 1)] [2, 3, 4, 7] 2 rfl rfl ?_)
    · simp at h
      simp [hinv, hd, hd', cmpsBy, h]
    · simp only [go_sem]
      exact Fits.rfl
end Go.Proofs.Ytegcmciglakicaa
