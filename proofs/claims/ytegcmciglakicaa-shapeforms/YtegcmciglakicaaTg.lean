import Derived.Test.YtegcmciglakicaaTe
namespace Go.Proofs.Ytegcmciglakicaa
open Go.RowKit Go.Exe
set_option linter.unusedVariables false
set_option linter.unusedSimpArgs false
set_option maxHeartbeats 1000000
set_option maxRecDepth 100000

def cmpsBy (cm : Shp → Shp → Int) : List Shp → List Shp → Int
  | [], [] => 0
  | [], _ :: _ => -1
  | _ :: _, [] => 1
  | x :: r, y :: q => if cm x y ≠ 0 then cm x y else cmpsBy cm r q
theorem shT_mk (s o ks) : shT (.mk s o ks) = .g [.im (.flat (.string s)), .im (.flat (.string o)), .im (.sl 27 (avs ks))] := rfl
theorem compareFunc_c (f : Nat) (cm : Shp → Shp → Int) (xs ys : List Shp) (hf : ∀ x ∈ xs, ∀ y ∈ ys, PCall Try.prog f [shT x, shT y] (ft (.int .i64 (cm x y)))) :
    PCall Try.prog 50 [.c (.im (.sl 27 (avs xs))), .c (.im (.sl 27 (avs ys))), ft (.func (.func f) #[] #[])] (ft (.int .i64 (cmpsBy cm xs ys))) := by
  refine PCall.intro (nt := 39) (rs := [.tmp 6]) Try.func50 rfl ⟨by kernel_rfl, by kernel_rfl, by kernel_rfl⟩ (by simp) ?_
  rintro ⟨P, w0, ok0, may, np, pblk⟩ rfl rfl
  refine W.lenIm 0 rfl fun hlen => ?_
  rw [avs_len, maxLen_is] at hlen
  repeat' (first
    | (refine W.ret (Post.ret ?_); simp only [go_sem, avs_len])
    | (refine W.exit ?_; simp only [go_sem])
    | (refine W.skip ?_; simp only [go_sem])
    | refine W.block ?_
    | (refine W.reg rfl ?_; simp only [go_sem, avs_len])
    | (refine W.regD Try_mo rfl rfl ?_; simp only [go_sem, avs_len])
    | (refine W.seq fun K hK => ?_)
    | (refine AX.pcall rfl rfl rfl (by solve_by_elim) rfl rfl ?_; simp only [go_sem, avs_len])
    | (refine AX.pcallF rfl rfl rfl rfl (by solve_by_elim) rfl rfl ?_; simp only [go_sem, avs_len])
    | refine W.condT rfl ?_
    | refine W.condF rfl ?_
    | refine W.cond rfl (fun h => ?_) (fun h => ?_)
    | (refine hK _ ?_; clear hK K)
    | (clear hK K; refine hK _ ?_; clear hK K)
    | (clear hK K; clear hK K; refine hK _ ?_; clear hK K)
    | (clear hK K; clear hK K; clear hK K; refine hK _ ?_; clear hK K)
    | refine And.intro (by first | rfl | omega | assumption | (simp; omega)) ?_
    | fail)
  refine W.loopF (T := fun i : Nat => { t := [(0, .c (.im (.sl 27 (avs xs)))), (1, .c (.im (.sl 27 (avs ys)))), (2, ft (.func (.func f) #[] #[])), (6, ft (.int .i64 0)), (11, .c (.im (.sl 27 (avs xs)))), (12, ft (.int .i64 xs.length)), (13, ft (.int .i64 (i : Nat)))], h := [], nx := 0, ex := [], nt := 39 })
    (Inv := fun i => i ≤ xs.length ∧ i ≤ ys.length ∧ cmpsBy cm xs ys = cmpsBy cm (xs.drop i) (ys.drop i)) (μ := fun i => xs.length - i) (x0 := 0) (Fits.fit [] [0, 1, 2, 6, 11, 12, 13] 0 rfl rfl ?_) ⟨Nat.zero_le _, Nat.zero_le _, rfl⟩ ?_
  · simp only [go_sem]
    exact Fits.rfl
  rintro i ⟨hi, hi2, hinv⟩ KL hKL
  by_cases hlt : i < xs.length
  · obtain ⟨⟨s, o, ks⟩, hx, hm, hd⟩ := drop_at hlt
    have e1 : decide ((i : Int) < xs.length) = true := by simp; omega
    have hw := w64s i (by omega)
    by_cases hlt2 : i < ys.length
    · obtain ⟨⟨s', o', ks'⟩, hx', hm', hd'⟩ := drop_at hlt2
      have hc := hf _ hm _ hm'
      rw [shT_mk, shT_mk] at hc
      have e2 : decide ((i : Int) ≥ ys.length) = false := by simp; omega
      repeat' (first
        | (refine W.ret (Post.ret ?_); simp only [go_sem, avs_len, avs_get, hx, hx', Shp.av, e1, e2, hw])
        | (refine W.exit ?_; simp only [go_sem])
        | (refine W.skip ?_; simp only [go_sem])
        | refine W.block ?_
        | (refine W.reg rfl ?_; simp only [go_sem, avs_len, avs_get, hx, hx', Shp.av, e1, e2, hw])
        | (refine W.regD Try_mo rfl rfl ?_; simp only [go_sem, avs_len, avs_get, hx, hx', Shp.av, e1, e2, hw])
        | (refine W.seq fun K hK => ?_)
        | (refine AX.pcall rfl rfl rfl (by solve_by_elim) rfl rfl ?_; simp only [go_sem, avs_len, avs_get, hx, hx', Shp.av, e1, e2, hw])
        | (refine AX.pcallF rfl rfl rfl rfl (by solve_by_elim) rfl rfl ?_; simp only [go_sem, avs_len, avs_get, hx, hx', Shp.av, e1, e2, hw])
        | refine W.condT rfl ?_
        | refine W.condF rfl ?_
        | refine W.cond rfl (fun h => ?_) (fun h => ?_)
        | (refine hK _ ?_; clear hK K)
        | (clear hK K; refine hK _ ?_; clear hK K)
        | (clear hK K; clear hK K; refine hK _ ?_; clear hK K)
        | (clear hK K; clear hK K; clear hK K; refine hK _ ?_; clear hK K)
        | refine And.intro (by first | rfl | omega | assumption | (simp; omega)) ?_
        | fail)
      · simp at h
        simp [hinv, hd, hd', cmpsBy, h]
      · refine hKL.to (i + 1) ⟨by omega, by omega, ?_⟩ (by omega) (Fits.fit [] [0, 1, 2, 6, 11, 12, 13] 0 rfl rfl ?_)
        · simp at h
          simp [hinv, hd, hd', cmpsBy, h]
        · simp only [go_sem]
          exact Fits.rfl
    · have e2 : decide ((i : Int) ≥ ys.length) = true := by simp; omega
      repeat' (first
        | (refine W.ret (Post.ret ?_); simp only [go_sem, avs_len, avs_get, hx, Shp.av, e1, e2, hw])
        | (refine W.exit ?_; simp only [go_sem])
        | (refine W.skip ?_; simp only [go_sem])
        | refine W.block ?_
        | (refine W.reg rfl ?_; simp only [go_sem, avs_len, avs_get, hx, Shp.av, e1, e2, hw])
        | (refine W.regD Try_mo rfl rfl ?_; simp only [go_sem, avs_len, avs_get, hx, Shp.av, e1, e2, hw])
        | (refine W.seq fun K hK => ?_)
        | (refine AX.pcall rfl rfl rfl (by solve_by_elim) rfl rfl ?_; simp only [go_sem, avs_len, avs_get, hx, Shp.av, e1, e2, hw])
        | (refine AX.pcallF rfl rfl rfl rfl (by solve_by_elim) rfl rfl ?_; simp only [go_sem, avs_len, avs_get, hx, Shp.av, e1, e2, hw])
        | refine W.condT rfl ?_
        | refine W.condF rfl ?_
        | refine W.cond rfl (fun h => ?_) (fun h => ?_)
        | (refine hK _ ?_; clear hK K)
        | (clear hK K; refine hK _ ?_; clear hK K)
        | (clear hK K; clear hK K; refine hK _ ?_; clear hK K)
        | (clear hK K; clear hK K; clear hK K; refine hK _ ?_; clear hK K)
        | refine And.intro (by first | rfl | omega | assumption | (simp; omega)) ?_
        | fail)
      have : ys.drop i = [] := List.drop_eq_nil_of_le (by omega)
      simp [hinv, hd, this, cmpsBy]
  · have e1 : decide ((i : Int) < xs.length) = false := by simp; omega
    have hd : xs.drop i = [] := List.drop_eq_nil_of_le (by omega)
    clear hKL
    repeat' (first
      | (refine W.ret (Post.ret ?_); simp only [go_sem, avs_len, e1])
      | (refine W.exit ?_; simp only [go_sem])
      | (refine W.skip ?_; simp only [go_sem])
      | refine W.block ?_
      | (refine W.reg rfl ?_; simp only [go_sem, avs_len, e1])
      | (refine W.regD Try_mo rfl rfl ?_; simp only [go_sem, avs_len, e1])
      | (refine W.seq fun K hK => ?_)
      | (refine AX.pcall rfl rfl rfl (by solve_by_elim) rfl rfl ?_; simp only [go_sem, avs_len, e1])
      | (refine AX.pcallF rfl rfl rfl rfl (by solve_by_elim) rfl rfl ?_; simp only [go_sem, avs_len, e1])
      | refine W.condT rfl ?_
      | refine W.condF rfl ?_
      | refine W.cond rfl (fun h => ?_) (fun h => ?_)
      | (refine hK _ ?_; clear hK K)
      | (clear hK K; refine hK _ ?_; clear hK K)
      | (clear hK K; clear hK K; refine hK _ ?_; clear hK K)
      | (clear hK K; clear hK K; clear hK K; refine hK _ ?_; clear hK K)
      | refine And.intro (by first | rfl | omega | assumption | (simp; omega)) ?_
      | fail)
    · obtain ⟨x, r, hd'⟩ : ∃ x r, ys.drop i = x :: r := by
        simp at h
        obtain ⟨x, _, _, h4⟩ := drop_at (show i < ys.length by omega)
        exact ⟨x, _, h4⟩
      simp [hinv, hd, hd', cmpsBy]
    · have : ys.drop i = [] := by simp at h; exact List.drop_eq_nil_of_le (by omega)
      simp [hinv, hd, this, cmpsBy]
theorem cmps_by : ∀ xs ys : List Shp, cmps xs ys = cmpsBy Shp.cmp xs ys
  | [], [] => by simp [cmps, cmpsBy]
  | [], _ :: _ => by simp [cmps, cmpsBy]
  | _ :: _, [] => by simp [cmps, cmpsBy]
  | x :: r, y :: q => by simp [cmps, cmpsBy, cmps_by r q]
theorem shcompare_all (cOr : ∀ l : List Int, PCall Try.prog 48 [.c (.im (.sl 3 (l.map iA)))] (ft (.int .i64 (orL l)))) : ∀ x y : Shp, PCall Try.prog 34 [shT x, shT y] (ft (.int .i64 (x.cmp y)))
  | .mk s o ks, .mk s' o' ks' => by
    refine shcompare_c cOr s o s' o' ks ks' ?_
    rw [cmps_by]
    exact compareFunc_c 34 Shp.cmp ks ks' fun x hx y hy => shcompare_all cOr x y
termination_by x => SizeOf.sizeOf x
decreasing_by
  have := List.sizeOf_lt_of_mem hx
  simp only [Shp.mk.sizeOf_spec]
  omega
end Go.Proofs.Ytegcmciglakicaa
