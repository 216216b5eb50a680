import Derived.Test.YtegcmciglakicaaTd
namespace Go.Proofs.Ytegcmciglakicaa
open Go.RowKit Go.Exe
set_option linter.unusedVariables false
set_option linter.unusedSimpArgs false

inductive Shp where
  | mk (s o : ByteArray) (ks : List Shp)
mutual
def Shp.av : Shp → List AV
  | .mk s o ks => [.flat (.string s), .flat (.string o), .sl 27 (avs ks)]
def avs : List Shp → List (List AV)
  | [] => []
  | x :: r => x.av :: avs r
end
theorem avs_get : ∀ (l : List Shp) (i : Nat), (avs l)[i]? = l[i]?.map Shp.av
  | [], i => by simp [avs]
  | x :: r, 0 => by simp [avs]
  | x :: r, i + 1 => by simp [avs, avs_get r i]
theorem avs_len : ∀ l : List Shp, (avs l).length = l.length
  | [] => rfl
  | x :: r => by simp [avs, avs_len r]
def iA (n : Int) : List AV := [.flat (.int .i64 n)]
def orL : List Int → Int
  | [] => 0
  | x :: r => if x = 0 then orL r else x
def shT (x : Shp) : TV := .g (x.av.map .im)
mutual
def Shp.cmp : Shp → Shp → Int
  | .mk s o ks, .mk s' o' ks' => if orL [cmpB s s', cmpB o o'] ≠ 0 then orL [cmpB s s', cmpB o o'] else cmps ks ks'
def cmps : List Shp → List Shp → Int
  | [], [] => 0
  | [], _ :: _ => -1
  | _ :: _, [] => 1
  | x :: r, y :: q => if x.cmp y ≠ 0 then x.cmp y else cmps r q
end

theorem shcompare_c (cOr : ∀ l : List Int, PCall Try.prog 48 [.c (.im (.sl 3 (l.map iA)))] (ft (.int .i64 (orL l)))) (s o s' o' : ByteArray) (ks ks' : List Shp)
    (c50 : PCall Try.prog 50 [.c (.im (.sl 27 (avs ks))), .c (.im (.sl 27 (avs ks'))), ft (.func (.func 34) #[] #[])] (ft (.int .i64 (cmps ks ks')))) :
    PCall Try.prog 34 [shT (.mk s o ks), shT (.mk s' o' ks')] (ft (.int .i64 (Shp.cmp (.mk s o ks) (.mk s' o' ks')))) := by
  have c1 := cmpCompare_c
  have c2 := cOr [cmpB s s', cmpB o o']
  simp only [List.map, iA] at c2
  simp only [shT, Shp.av, List.map]
  refine PCall.intro (nt := 26) (rs := [.tmp 4]) Try.func34 rfl ⟨by kernel_rfl, by kernel_rfl, by kernel_rfl⟩ (by simp) ?_
  rintro ⟨P, w0, ok0, may, np, pblk⟩ rfl rfl
  repeat' (first
    | (refine W.ret (Post.ret ?_); simp only [go_sem, indepK, apartAllK, apartK, disjK])
    | (refine W.exit ?_; simp only [go_sem])
    | (refine W.skip ?_; simp only [go_sem])
    | refine W.block ?_
    | (refine W.reg rfl ?_; simp only [go_sem, indepK, apartAllK, apartK, disjK])
    | (refine W.regD Try_mo rfl rfl ?_; simp only [go_sem, indepK, apartAllK, apartK, disjK])
    | (refine W.seq fun K hK => ?_)
    | (refine AX.pcall rfl rfl rfl (by solve_by_elim) rfl rfl ?_; simp only [go_sem, indepK, apartAllK, apartK, disjK])
    | (refine AX.pcallF rfl rfl rfl rfl (by solve_by_elim) rfl rfl ?_; simp only [go_sem, indepK, apartAllK, apartK, disjK])
    | refine W.condT rfl ?_
    | refine W.condF rfl ?_
    | refine W.cond rfl (fun h => ?_) (fun h => ?_)
    | (refine hK _ ?_; clear hK K)
    | (clear hK K; refine hK _ ?_; clear hK K)
    | (clear hK K; clear hK K; refine hK _ ?_; clear hK K)
    | (clear hK K; clear hK K; clear hK K; refine hK _ ?_; clear hK K)
    | refine And.intro (by first | rfl | omega | assumption | (simp; omega)) ?_
    | fail)
  all_goals simp_all [Shp.cmp]
end Go.Proofs.Ytegcmciglakicaa
