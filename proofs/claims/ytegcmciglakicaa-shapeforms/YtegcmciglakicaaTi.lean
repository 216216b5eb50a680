import Derived.Test.YtegcmciglakicaaTg
import Derived.Test.YtegcmciglakicaaXq
namespace Go.Proofs.Ytegcmciglakicaa
open Go.RowKit Go.Exe
set_option linter.unusedVariables false
set_option linter.unusedSimpArgs false
set_option maxHeartbeats 1000000
set_option maxRecDepth 100000

instance : Inhabited Shp := ⟨.mk .empty .empty []⟩
def ins1 (x : Shp) : List Shp → List Shp
  | [] => [x]
  | y :: r => if x.cmp y < 0 then x :: y :: r else y :: ins1 x r
def srt : List Shp → List Shp
  | [] => []
  | x :: r => ins1 x (srt r)
mutual
def Shp.canon : Shp → Shp
  | .mk s o ks => .mk s o (srt (canons ks))
def canons : List Shp → List Shp
  | [] => []
  | x :: r => x.canon :: canons r
end
theorem avs_map : ∀ l : List Shp, avs l = l.map Shp.av
  | [] => rfl
  | x :: r => by simp [avs, avs_map r]
theorem canons_map : ∀ l : List Shp, canons l = l.map Shp.canon
  | [] => rfl
  | x :: r => by simp [canons, canons_map r]
theorem canonical_c (c35 : SortC Try.prog 35 3) (c34 : ∀ x y : Shp, PCall Try.prog 34 [shT x, shT y] (ft (.int .i64 (x.cmp y))))
    (hord : ∀ l, OrdOn Shp.cmp l) (hperm : ∀ l, (srt l).Perm l) (huni : ∀ l zs' : List Shp, zs'.Perm l → zs'.Pairwise (fun a b => ¬ Shp.cmp b a < 0) → zs' = srt l)
    (s o : ByteArray) (ks : List Shp) (ih : ∀ x ∈ ks, PCall Try.prog 12 [shT x] (shT x.canon)) :
    PCall Try.prog 12 [shT (.mk s o ks)] (shT (Shp.canon (.mk s o ks))) := by
  simp only [shT, Shp.av, List.map, Shp.canon]
  refine PCall.intro (nt := 30) (rs := [.cell 2 27]) Try.func12 rfl ⟨by kernel_rfl, by kernel_rfl, by kernel_rfl⟩ (by simp) ?_
  rintro ⟨P, w0, ok0, may, np, pblk⟩ rfl rfl
  repeat' (first
    | (refine W.ret (Post.ret ?_); simp only [go_sem, avs_len])
    | (refine W.exit ?_; simp only [go_sem])
    | (refine W.skip ?_; simp only [go_sem])
    | refine W.block ?_
    | (refine W.reg rfl ?_; simp only [go_sem, avs_len])
    | (refine W.regD Try_mo rfl rfl ?_; simp only [go_sem, avs_len])
    | (refine W.seq fun K hK => ?_)
    | (refine AX.pcall rfl rfl rfl (by solve_by_elim) rfl rfl ?_; simp only [go_sem, avs_len])
    | (refine AX.pcallF rfl rfl rfl rfl (by solve_by_elim) rfl rfl ?_; simp only [go_sem, avs_len])
    | refine W.condT rfl ?_
    | refine W.condF rfl ?_
    | refine W.cond rfl (fun h => ?_) (fun h => ?_)
    | (refine hK _ ?_; clear hK K)
    | (clear hK K; refine hK _ ?_; clear hK K)
    | (clear hK K; clear hK K; refine hK _ ?_; clear hK K)
    | (clear hK K; clear hK K; clear hK K; refine hK _ ?_; clear hK K)
    | refine And.intro (by first | rfl | omega | assumption | (simp; omega)) ?_
    | fail)
  refine W.lenB 12 rfl tE27 fun hlen hbytes => ?_
  rw [avs_len] at hbytes
  rw [avs_len, maxLen_is] at hlen
  refine W.loopF (T := fun i : Nat => { t := [(2, .c (.ptr 0 0)), (3, .c (.ptr 1 0)), (12, .c (.im (.sl 27 (avs ks)))), (13, ft (.int .i64 ks.length)), (14, ft (.int .i64 (i : Nat)))], h := [(0, .box 27 [fl (.string .empty), fl (.string .empty), fl (.slice none 0 0)]), (1, .box 27 [fl (.string s), fl (.string o), .ref 2]), (2, .row 27 (imR (((ks.take i).map Shp.canon).map Shp.av)))], nx := 3, ex := [], nt := 30 })
    (Inv := fun i => i ≤ ks.length) (μ := fun i => ks.length - i) (x0 := 0) (Fits.fit [(1, 0), (7, 1)] [2, 3, 12, 13, 14] 2 rfl rfl ?_) (Nat.zero_le _) ?_
  · simp only [go_sem]
    refine Fits.adoptB 1 27 _ 2 2 27 rfl rfl rfl rfl tE27 rfl ?_
    refine Fits.fit [(0, 0), (1, 1), (2, 2)] [2, 3, 12, 13, 14] 3 rfl rfl ?_
    simp only [go_sem]
    exact Fits.rfl
  intro i hi KL hKL
  by_cases hlt : i < ks.length
  · obtain ⟨⟨s', o', ks'⟩, hx, hm, hd⟩ := drop_at hlt
    have e1 : decide ((i : Int) < ks.length) = true := by simp; omega
    have hw := w64s i (by omega)
    have hc := ih _ hm
    simp only [shT_mk, Shp.canon] at hc
    repeat' (first
      | (refine W.ret (Post.ret ?_); simp only [go_sem, avs_get, hx, Shp.av, e1, hw])
      | (refine W.exit ?_; simp only [go_sem])
      | (refine W.skip ?_; simp only [go_sem])
      | refine W.block ?_
      | (refine W.reg rfl ?_; simp only [go_sem, avs_get, hx, Shp.av, e1, hw])
      | (refine W.regD Try_mo rfl rfl ?_; simp only [go_sem, avs_get, hx, Shp.av, e1, hw])
      | (refine W.seq fun K hK => ?_)
      | (refine AX.pcall rfl rfl rfl (by solve_by_elim) rfl rfl ?_; simp only [go_sem, avs_get, hx, Shp.av, e1, hw])
      | (refine AX.pcallF rfl rfl rfl rfl (by solve_by_elim) rfl rfl ?_; simp only [go_sem, avs_get, hx, Shp.av, e1, hw])
      | refine W.condT rfl ?_
      | refine W.condF rfl ?_
      | refine W.cond rfl (fun h => ?_) (fun h => ?_)
      | (refine hK _ ?_; clear hK K)
      | (clear hK K; refine hK _ ?_; clear hK K)
      | (clear hK K; clear hK K; refine hK _ ?_; clear hK K)
      | (clear hK K; clear hK K; clear hK K; refine hK _ ?_; clear hK K)
      | refine And.intro (by first | rfl | omega | assumption | (simp; omega)) ?_
      | fail)
    refine hKL.to (i + 1) (by omega) (by omega) (Fits.fit [(0, 0), (1, 1), (13, 2)] [2, 3, 12, 13, 14] 3 rfl rfl ?_)
    simp only [go_sem, take_at hx, List.map_append, imR_app, imR_one, imL, Shp.canon, Shp.av]
    exact Fits.rfl
  · have e1 : decide ((i : Int) < ks.length) = false := by simp; omega
    have hi2 : i = ks.length := by omega
    subst hi2
    clear hKL
    repeat' (first
      | (refine W.ret (Post.ret ?_); simp only [go_sem, e1])
      | (refine W.exit ?_; simp only [go_sem])
      | (refine W.skip ?_; simp only [go_sem])
      | refine W.block ?_
      | (refine W.reg rfl ?_; simp only [go_sem, e1])
      | (refine W.regD Try_mo rfl rfl ?_; simp only [go_sem, e1])
      | (refine W.seq fun K hK => ?_)
      | (refine AX.pcall rfl rfl rfl (by solve_by_elim) rfl rfl ?_; simp only [go_sem, e1])
      | (refine AX.pcallF rfl rfl rfl rfl (by solve_by_elim) rfl rfl ?_; simp only [go_sem, e1])
      | refine W.condT rfl ?_
      | refine W.condF rfl ?_
      | refine W.cond rfl (fun h => ?_) (fun h => ?_)
      | (refine hK _ ?_; clear hK K)
      | (clear hK K; refine hK _ ?_; clear hK K)
      | (clear hK K; clear hK K; refine hK _ ?_; clear hK K)
      | (clear hK K; clear hK K; clear hK K; refine hK _ ?_; clear hK K)
      | refine And.intro (by first | rfl | omega | assumption | (simp; omega)) ?_
      | fail)
    refine AX.sort Shp.av rfl rfl rfl rfl rfl rfl tE27 (by decide) c35 (fun x _ y _ => c34 x y) (hord _) (hperm _) (huni _) rfl ?_
    simp only [go_sem]
    repeat' (first
      | (refine W.ret (Post.ret ?_); simp only [go_sem])
      | (refine W.exit ?_; simp only [go_sem])
      | (refine W.skip ?_; simp only [go_sem])
      | refine W.block ?_
      | (refine W.reg rfl ?_; simp only [go_sem])
      | (refine W.regD Try_mo rfl rfl ?_; simp only [go_sem])
      | (refine W.seq fun K hK => ?_)
      | (refine AX.pcall rfl rfl rfl (by solve_by_elim) rfl rfl ?_; simp only [go_sem])
      | (refine AX.pcallF rfl rfl rfl rfl (by solve_by_elim) rfl rfl ?_; simp only [go_sem])
      | refine W.condT rfl ?_
      | refine W.condF rfl ?_
      | refine W.cond rfl (fun h => ?_) (fun h => ?_)
      | (refine hK _ ?_; clear hK K)
      | (clear hK K; refine hK _ ?_; clear hK K)
      | (clear hK K; clear hK K; refine hK _ ?_; clear hK K)
      | (clear hK K; clear hK K; clear hK K; refine hK _ ?_; clear hK K)
      | refine And.intro (by first | rfl | omega | assumption | (simp; omega)) ?_
      | fail)
    simp [avs_map, canons_map]
end Go.Proofs.Ytegcmciglakicaa
