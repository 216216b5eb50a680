import Derived.Test.YtegcmciglakicaaTm
namespace Go.Proofs.Ytegcmciglakicaa
open Go.RowKit Go.Exe
set_option linter.unusedVariables false
set_option linter.unusedSimpArgs false
set_option maxHeartbeats 1000000
set_option maxRecDepth 100000

def posR (c : Shp) (l : List Shp) : Nat → Nat
  | 0 => 0
  | n + 1 => match l[n]? with
    | some x => if x.cmp c > 0 then posR c l n else n + 1
    | none => n + 1
def insM (c : Shp) (l : List Shp) : List Shp := l.take (posR c l l.length) ++ [c] ++ l.drop (posR c l l.length)
theorem posR_le (c : Shp) (l : List Shp) : ∀ n, posR c l n ≤ n
  | 0 => Nat.le_refl _
  | n + 1 => by
    unfold posR
    split
    · split
      · exact Nat.le_succ_of_le (posR_le c l n)
      · exact Nat.le_refl _
    · exact Nat.le_refl _
theorem insM_len (c : Shp) (l : List Shp) : (insM c l).length = l.length + 1 := by
  have := posR_le c l l.length
  simp [insM]; omega
mutual
def Shp.mcanon : Shp → Shp
  | .mk s o ks => .mk s o (mcanons [] ks)
def mcanons (acc : List Shp) : List Shp → List Shp
  | [] => acc
  | x :: r => mcanons (insM x.mcanon acc) r
end
theorem mcanons_app : ∀ (a b acc : List Shp), mcanons acc (a ++ b) = mcanons (mcanons acc a) b
  | [], b, acc => by simp [mcanons]
  | x :: r, b, acc => by simp [mcanons, mcanons_app r b]
theorem mcanons_at {l : List Shp} {i : Nat} {x : Shp} (h : l[i]? = some x) (acc : List Shp) : mcanons acc (l.take (i + 1)) = insM x.mcanon (mcanons acc (l.take i)) := by
  rw [take_at h, mcanons_app]; simp [mcanons]
theorem mcanons_len : ∀ (l acc : List Shp), (mcanons acc l).length = acc.length + l.length
  | [], acc => by simp [mcanons]
  | x :: r, acc => by simp [mcanons, mcanons_len r, insM_len]; omega
theorem mcanonical_c (c14 : ∀ x y : Shp, PCall Try.prog 14 [shT x, shT y] (ft (.int .i64 (x.cmp y))))
    (s o : ByteArray) (ks : List Shp) (ih : ∀ x ∈ ks, PCall Try.prog 13 [shT x] (shT x.mcanon)) :
    PCall Try.prog 13 [shT (.mk s o ks)] (shT (Shp.mcanon (.mk s o ks))) := by
  simp only [shT, Shp.av, List.map, Shp.mcanon]
  refine PCall.intro (nt := 59) (rs := [.cell 2 27]) Try.func13 rfl ⟨by kernel_rfl, by kernel_rfl, by kernel_rfl⟩ (by simp) ?_
  rintro ⟨P, w0, ok0, may, np, pblk⟩ rfl rfl
  repeat' (first
    | (refine W.ret (Post.ret ?_); simp only [go_sem])
    | (refine W.exit ?_; simp only [go_sem])
    | (refine W.skip ?_; simp only [go_sem])
    | refine W.block ?_
    | (refine W.reg rfl ?_; simp only [go_sem])
    | (refine W.regD Try_mo rfl rfl ?_; simp only [go_sem])
    | (refine W.seq fun K hK => ?_)
    | (refine AX.pcall rfl rfl rfl (by solve_by_elim) rfl rfl ?_; simp only [go_sem])
    | (refine AX.pcallF rfl rfl rfl rfl (by solve_by_elim) rfl rfl ?_; simp only [go_sem])
    | refine W.condT rfl ?_
    | refine W.condF rfl ?_
    | refine W.cond rfl (fun h => ?_) (fun h => ?_)
    | (refine hK _ ?_; clear hK K)
    | (clear hK K; refine hK _ ?_; clear hK K)
    | (clear hK K; clear hK K; refine hK _ ?_; clear hK K)
    | (clear hK K; clear hK K; clear hK K; refine hK _ ?_; clear hK K)
    | refine And.intro (by first | rfl | omega | assumption | (simp; omega)) ?_
    | fail)
  refine W.lenX 0 2 rfl rfl tE27 fun hlen hbytes => ?_
  rw [avs_len] at hbytes
  rw [avs_len, maxLen_is] at hlen
  refine W.loopF (T := fun i : Nat => { t := [(1, .c (.ptr 0 0)), (2, .c (.ptr 1 0)), (3, .c (.ptr 2 0)), (4, ft (.int .i64 (i : Nat)))], h := [(0, .box 27 [fl (.string s), fl (.string o), .im (.sl 27 (avs ks))]), (1, .box 27 [fl (.string .empty), fl (.string .empty), fl (.slice none 0 0)]), (2, .box 27 [fl (.string s), fl (.string o), .ref 3]), (3, .row 27 (imR ((mcanons [] (ks.take i)).map Shp.av)))], nx := 4, ex := [], nt := 59 })
    (Inv := fun i => i ≤ ks.length) (μ := fun i => ks.length - i) (x0 := 0) (Fits.fit [(0, 0), (1, 1), (7, 2)] [1, 2, 3, 4] 3 rfl rfl ?_) (Nat.zero_le _) ?_
  · simp only [go_sem]
    refine Fits.adoptB 2 27 _ 2 3 27 rfl rfl rfl rfl tE27 rfl ?_
    simp only [go_sem]
    refine Fits.fit [(0, 0), (1, 1), (2, 2), (3, 3)] [1, 2, 3, 4] 4 rfl rfl ?_
    simp only [go_sem]
    exact Fits.rfl
  intro i hi KL hKL
  by_cases hlt : i < ks.length
  rotate_left
  · have e1 : decide ((i : Int) < ks.length) = false := by simp; omega
    have hi2 : i = ks.length := by omega
    subst hi2
    clear hKL
    repeat' (first
      | (refine W.ret (Post.ret ?_); simp only [go_sem, avs_len, e1])
      | (refine W.exit ?_; simp only [go_sem])
      | (refine W.skip ?_; simp only [go_sem])
      | refine W.block ?_
      | (refine W.reg rfl ?_; simp only [go_sem, avs_len, e1])
      | (refine W.regD Try_mo rfl rfl ?_; simp only [go_sem, avs_len, e1])
      | (refine W.seq fun K hK => ?_)
      | (refine AX.pcall rfl rfl rfl (by solve_by_elim) rfl rfl ?_; simp only [go_sem, avs_len, e1])
      | (refine AX.pcallF rfl rfl rfl rfl (by solve_by_elim) rfl rfl ?_; simp only [go_sem, avs_len, e1])
      | refine W.condT rfl ?_
      | refine W.condF rfl ?_
      | refine W.cond rfl (fun h => ?_) (fun h => ?_)
      | (refine hK _ ?_; clear hK K)
      | (clear hK K; refine hK _ ?_; clear hK K)
      | (clear hK K; clear hK K; refine hK _ ?_; clear hK K)
      | (clear hK K; clear hK K; clear hK K; refine hK _ ?_; clear hK K)
      | refine And.intro (by first | rfl | omega | assumption | (simp; omega)) ?_
      | fail)
    simp [avs_map]
  obtain ⟨⟨s', o', ks'⟩, hx, hm, hd⟩ := drop_at hlt
  have e1 : decide ((i : Int) < ks.length) = true := by simp; omega
  have hw := w64s i (by omega)
  have hc := ih _ hm
  have hcm := c14
  have hat := mcanons_at hx []
  have hl := mcanons_len (ks.take i) []
  rw [List.length_take, Nat.min_eq_left hi, List.length_nil, Nat.zero_add] at hl
  simp only [shT_mk, Shp.mcanon] at hc hat
  generalize hacc : mcanons [] (ks.take i) = acc at hat hl ⊢
  generalize hcc : mcanons [] ks' = cs at hc hat
  repeat' (first
    | (refine W.ret (Post.ret ?_); simp only [go_sem, avs_len, avs_get, hx, Shp.av, e1, hw])
    | (refine W.exit ?_; simp only [go_sem])
    | (refine W.skip ?_; simp only [go_sem])
    | refine W.block ?_
    | (refine W.reg rfl ?_; simp only [go_sem, avs_len, avs_get, hx, Shp.av, e1, hw])
    | (refine W.regD Try_mo rfl rfl ?_; simp only [go_sem, avs_len, avs_get, hx, Shp.av, e1, hw])
    | (refine W.seq fun K hK => ?_)
    | (refine AX.pcall rfl rfl rfl (by solve_by_elim) rfl rfl ?_; simp only [go_sem, avs_len, avs_get, hx, Shp.av, e1, hw])
    | (refine AX.pcallF rfl rfl rfl rfl (by solve_by_elim) rfl rfl ?_; simp only [go_sem, avs_len, avs_get, hx, Shp.av, e1, hw])
    | refine W.condT rfl ?_
    | refine W.condF rfl ?_
    | refine W.cond rfl (fun h => ?_) (fun h => ?_)
    | (refine hK _ ?_; clear hK K)
    | (clear hK K; refine hK _ ?_; clear hK K)
    | (clear hK K; clear hK K; refine hK _ ?_; clear hK K)
    | (clear hK K; clear hK K; clear hK K; refine hK _ ?_; clear hK K)
    | refine And.intro (by first | rfl | omega | assumption | (simp; omega)) ?_
    | fail)
  have hK2 : ∀ k : Nat, k ≤ acc.length → posR (.mk s' o' cs) acc acc.length = k → ∀ s1 : St, Fits ⟨Try.prog, w0, ok0, may, 0, pblk⟩ s1 { t := [(1, .c (.ptr 0 0)), (2, .c (.ptr 1 0)), (3, .c (.ptr 2 0)), (4, ft (.int .i64 (i : Nat))), (5, .c (.ptr 4 0)), (6, ft (.int .i64 (k : Nat)))], h := [(0, .box 27 [fl (.string s), fl (.string o), .im (.sl 27 (avs ks))]), (1, .box 27 [fl (.string .empty), fl (.string .empty), fl (.slice none 0 0)]), (2, .box 27 [fl (.string s), fl (.string o), .ref 3]), (3, .row 27 (imR (acc.map Shp.av))), (4, .box 27 [fl (.string s'), fl (.string o'), .im (.sl 27 (avs cs))])], nx := 5, ex := [], nt := 59 } → K s1 := by
    intro k hk hpos s1 hf
    refine hK _ (W.fits hf ?_); clear hK K
    have f1 : decide (k ≤ acc.length) = true := by simp; omega
    have f2 : decide (k + (acc.length - k) ≤ acc.length) = true := by simp; omega
    have f3 : List.take (acc.length - k) (List.drop k (List.map Shp.av acc)) = List.drop k (List.map Shp.av acc) := List.take_of_length_le (by simp)
    repeat' (first
      | (refine W.ret (Post.ret ?_); simp only [go_sem, avs_len, f1, f2, f3, hw, Nat.sub_zero])
      | (refine W.exit ?_; simp only [go_sem])
      | (refine W.skip ?_; simp only [go_sem])
      | refine W.block ?_
      | (refine W.reg rfl ?_; simp only [go_sem, avs_len, f1, f2, f3, hw, Nat.sub_zero])
      | (refine W.regD Try_mo rfl rfl ?_; simp only [go_sem, avs_len, f1, f2, f3, hw, Nat.sub_zero])
      | (refine W.seq fun K hK => ?_)
      | (refine AX.pcall rfl rfl rfl (by solve_by_elim) rfl rfl ?_; simp only [go_sem, avs_len, f1, f2, f3, hw, Nat.sub_zero])
      | (refine AX.pcallF rfl rfl rfl rfl (by solve_by_elim) rfl rfl ?_; simp only [go_sem, avs_len, f1, f2, f3, hw, Nat.sub_zero])
      | refine W.condT rfl ?_
      | refine W.condF rfl ?_
      | refine W.cond rfl (fun h => ?_) (fun h => ?_)
      | (refine hK _ ?_; clear hK K)
      | (clear hK K; refine hK _ ?_; clear hK K)
      | (clear hK K; clear hK K; refine hK _ ?_; clear hK K)
      | (clear hK K; clear hK K; clear hK K; refine hK _ ?_; clear hK K)
      | refine And.intro (by first | rfl | omega | assumption | (simp; omega)) ?_
      | fail)
    refine hKL.to (i + 1) (by omega) (by omega) (Fits.fit [(0, 0), (1, 1), (2, 2), (18, 3)] [1, 2, 3, 4] 4 rfl rfl ?_)
    simp only [go_sem, hat, insM, hpos, List.map_append, List.map_take, List.map_drop, imR_app, imR_one, imL, Shp.av]
    exact Fits.rfl
  refine W.loopF (T := fun k : Nat => { t := [(1, .c (.ptr 0 0)), (2, .c (.ptr 1 0)), (3, .c (.ptr 2 0)), (4, ft (.int .i64 (i : Nat))), (5, .c (.ptr 4 0)), (6, ft (.int .i64 (k : Nat)))], h := [(0, .box 27 [fl (.string s), fl (.string o), .im (.sl 27 (avs ks))]), (1, .box 27 [fl (.string .empty), fl (.string .empty), fl (.slice none 0 0)]), (2, .box 27 [fl (.string s), fl (.string o), .ref 3]), (3, .row 27 (imR (acc.map Shp.av))), (4, .box 27 [fl (.string s'), fl (.string o'), .im (.sl 27 (avs cs))])], nx := 5, ex := [], nt := 59 })
    (Inv := fun k => k ≤ acc.length ∧ posR (.mk s' o' cs) acc acc.length = posR (.mk s' o' cs) acc k) (μ := fun k => k) (x0 := acc.length) (Fits.fit [(0, 0), (1, 1), (2, 2), (3, 3), (15, 4)] [1, 2, 3, 4, 5, 6] 5 rfl rfl ?_) ⟨Nat.le_refl _, rfl⟩ ?_
  · simp only [go_sem]
    exact Fits.rfl
  rintro k ⟨hk, hinv⟩ KL2 hKL2
  rcases k with _ | n
  · have e3 : decide (((0 : Nat) : Int) > 0) = false := by simp
    clear hK
    repeat' (first
      | (refine W.ret (Post.ret ?_); simp only [go_sem, avs_len, e3])
      | (refine W.exit ?_; simp only [go_sem])
      | (refine W.skip ?_; simp only [go_sem])
      | refine W.block ?_
      | (refine W.reg rfl ?_; simp only [go_sem, avs_len, e3])
      | (refine W.regD Try_mo rfl rfl ?_; simp only [go_sem, avs_len, e3])
      | (refine W.seq fun K hK => ?_)
      | (refine AX.pcall rfl rfl rfl (by solve_by_elim) rfl rfl ?_; simp only [go_sem, avs_len, e3])
      | (refine AX.pcallF rfl rfl rfl rfl (by solve_by_elim) rfl rfl ?_; simp only [go_sem, avs_len, e3])
      | refine W.condT rfl ?_
      | refine W.condF rfl ?_
      | refine W.cond rfl (fun h => ?_) (fun h => ?_)
      | (refine hK _ ?_; clear hK K)
      | (clear hK K; refine hK _ ?_; clear hK K)
      | (clear hK K; clear hK K; refine hK _ ?_; clear hK K)
      | (clear hK K; clear hK K; clear hK K; refine hK _ ?_; clear hK K)
      | refine And.intro (by first | rfl | omega | assumption | (simp; omega)) ?_
      | fail)
    refine hK2 0 (Nat.zero_le _) (by rw [hinv]; rfl) _ (Fits.fit [(0, 0), (1, 1), (2, 2), (3, 3), (4, 4)] [1, 2, 3, 4, 5, 6] 5 rfl rfl ?_)
    simp only [go_sem]
    exact Fits.rfl
  obtain ⟨⟨s2, o2, ks2⟩, hx2, hm2, hd2⟩ := drop_at (show n < acc.length by omega)
  have e3 : decide (((n + 1 : Nat) : Int) > 0) = true := by simp
  have e4 : IntKind.i64.wrap (((n + 1 : Nat) : Int) - 1) = (n : Int) := by rw [w64 (by omega) (by omega)]; omega
  have e5 : decide (n < acc.length) = true := by simp; omega
  have hc2 := c14 (.mk s2 o2 ks2) (.mk s' o' cs)
  simp only [shT_mk] at hc2
  clear hK
  repeat' (first
    | (refine W.ret (Post.ret ?_); simp only [go_sem, avs_len, e3, e4, e5, hx2, Shp.av, imL, List.getElem?_map])
    | (refine W.exit ?_; simp only [go_sem])
    | (refine W.skip ?_; simp only [go_sem])
    | refine W.block ?_
    | (refine W.reg rfl ?_; simp only [go_sem, avs_len, e3, e4, e5, hx2, Shp.av, imL, List.getElem?_map])
    | (refine W.regD Try_mo rfl rfl ?_; simp only [go_sem, avs_len, e3, e4, e5, hx2, Shp.av, imL, List.getElem?_map])
    | (refine W.seq fun K hK => ?_)
    | (refine AX.pcall rfl rfl rfl (by solve_by_elim) rfl rfl ?_; simp only [go_sem, avs_len, e3, e4, e5, hx2, Shp.av, imL, List.getElem?_map])
    | (refine AX.pcallF rfl rfl rfl rfl (by solve_by_elim) rfl rfl ?_; simp only [go_sem, avs_len, e3, e4, e5, hx2, Shp.av, imL, List.getElem?_map])
    | refine W.condT rfl ?_
    | refine W.condF rfl ?_
    | refine W.cond rfl (fun h => ?_) (fun h => ?_)
    | (refine hK _ ?_; clear hK K)
    | (clear hK K; refine hK _ ?_; clear hK K)
    | (clear hK K; clear hK K; refine hK _ ?_; clear hK K)
    | (clear hK K; clear hK K; clear hK K; refine hK _ ?_; clear hK K)
    | refine And.intro (by first | rfl | omega | assumption | (simp; omega)) ?_
    | fail)
  · refine hKL2.to n ⟨by omega, ?_⟩ (by simp) (Fits.fit [(0, 0), (1, 1), (2, 2), (3, 3), (4, 4)] [1, 2, 3, 4, 5, 6] 5 rfl rfl ?_)
    · simp at h
      rw [hinv]
      simp [posR, hx2, h]
    · simp only [go_sem]
      exact Fits.rfl
  · refine hK2 (n + 1) (by omega) ?_ _ (Fits.fit [(0, 0), (1, 1), (2, 2), (3, 3), (4, 4)] [1, 2, 3, 4, 5, 6] 5 rfl rfl ?_)
    · simp at h
      rw [hinv]
      simp [posR, hx2]
      omega
    · simp only [go_sem]
      exact Fits.rfl
end Go.Proofs.Ytegcmciglakicaa
