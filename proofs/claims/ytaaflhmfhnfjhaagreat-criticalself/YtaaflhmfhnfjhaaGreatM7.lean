import Derived.Test.YtaaflhmfhnfjhaaGreatM5
import Derived.Test.YtaaflhmfhnfjhaaGreatM3
import Derived.Test.YtaaflhmfhnfjhaaGreatM2
set_option linter.unusedVariables false
set_option linter.unusedSimpArgs false
set_option maxHeartbeats 8000000
set_option maxRecDepth 100000
namespace Go.Proofs.YtaaflhmfhnfjhaaGreat
open Go.RowKit Go.Exe
/-! ### events, segments, offsets -/
structure Ev where
  tr : Int
  id : Int
  en : Bool
  deriving DecidableEq
structure Sg where
  sp : Rf
  fr : Ev
  to : Ev
  deriving DecidableEq
abbrev Of := Int × Int
def evA (x : Ev) : List AV := [.flat (.int .i64 x.tr), .flat (.int .i64 x.id), .flat (.bool x.en)]
abbrev evT (x : Ev) : TV := .g ((evA x).map .im)
def sgA (x : Sg) : List AV := [.flat (.int .i64 x.sp.1), .flat (.int .i64 x.sp.2), .flat (.int .i64 x.fr.tr), .flat (.int .i64 x.fr.id), .flat (.bool x.fr.en), .flat (.int .i64 x.to.tr), .flat (.int .i64 x.to.id), .flat (.bool x.to.en)]
abbrev sgsT (l : List Sg) : TV := .c (.im (.sl 66 (l.map sgA)))
def ofA (x : Of) : List AV := [.flat (.int .i64 x.1), .flat (.int .i64 x.2)]
abbrev ofsT (l : List Of) : TV := .c (.im (.sl 80 (l.map ofA)))
def evOf (s : Spn) (e : Bool) : Ev := ⟨s.tr, s.id, e⟩
def atS (s : Spn) (e : Bool) : Int := if e then s.en else s.st
/-- The map from clocks to offsets: the last one of a clock counts. -/
def putO (m : List Of) (x : Of) : List Of := match m with
  | [] => [x]
  | y :: r => if y.1 = x.1 then x :: r else y :: putO r x
def offM (v : List Of) : List Of := v.foldl putO []
def getO (m : List Of) (k : Int) : Option Int := match m with
  | [] => none
  | y :: r => if y.1 = k then some y.2 else getO r k
def ofE (m : List Of) : List (Value × Bool × List Cell) := m.map fun x => (.int .i64 x.1, false, [fl (.int .i64 x.2)])
def ofEA (m : List Of) : List (Value × Bool × List AV) := m.map fun x => (.int .i64 x.1, false, [.flat (.int .i64 x.2)])
theorem ofE_close (m : List Of) : closeE (ofE m) = some (ofEA m) := closeE_map _ _ (fun x => ⟨rfl, rfl, by simp [closeL, closeC]⟩) m
theorem rnEs_ofE (r : Ren) (m : List Of) : rnEs r (ofE m) = ofE m := rnEs_map r _ (fun _ => rfl) _
theorem ofE_put (m : List Of) (k n : Int) : mput (.int .i64 k) (false, [fl (.int .i64 n)]) (ofE m) = ofE (putO m (k, n)) := by
  induction m with
  | nil => rfl
  | cons y r ih =>
    simp only [ofE, List.map_cons, mput, putO] at ih ⊢
    by_cases h : y.1 = k
    · simp [h]
    · have : ¬ (Value.int IntKind.i64 y.1 = Value.int .i64 k) := by simpa using h
      simp [h, ih]
theorem ofE_mget (k : Int) : ∀ m : List Of, mget (.int .i64 k) (ofE m) = (getO m k).map fun n => (false, [fl (.int .i64 n)])
  | [] => rfl
  | y :: r => by
    have ih := ofE_mget k r
    simp only [ofE, List.map_cons, mget, getO] at ih ⊢
    by_cases h : y.1 = k
    · simp [h]
    · simp [h, ih]
theorem froE_of (m : List Of) : froE (ofEA m) = ofE m := by
  rw [froE_map]; simp [ofEA, ofE, imL]
/-- The value of a clock's offset, 0 where it has none. -/
def offK (v : List Of) (k : Int) : Int := (getO (offM v) k).getD 0
abbrev ofmT (v : List Of) : TV := .c (.im (.mp 3 (ofEA (offM v))))
attribute [local irreducible] W AX Run RunD AStep AOp AOpX AStB AStH AStG Fits PCall GCall PostG Post Stop
theorem event_c (s : Spn) (e : Bool) : PCall Tryz.prog 37 [spT s, ft (.bool e)] (evT (evOf s e)) := by
  have c1 := refOf_c s
  simp only [spT, spA, refA, evA, evOf, List.map] at c1 ⊢
  refine PCall.intro (nt := 9) (rs := [.cell 4 52]) Tryz.func37 rfl ⟨by kernel_rfl, by kernel_rfl, by kernel_rfl⟩ (by simp) ?_
  rintro ⟨P, w0, ok0, may, np, pblk⟩ rfl rfl
  repeat' (first | refine W.seq fun K hK => ?_ | refine W.block ?_ | ((first | refine wR ?_ | refine wD ?_ | refine W.skip ?_ | refine W.exit ?_ | refine W.ret (Post.ret ?_) | refine aP ?_ | refine aF ?_ | refine aL ?_ | refine aU ?_ | refine aM ?_ | refine aN ?_ | refine aR ?_ | refine aD ?_); simp only [go_sem, reduceCtorEq]) | refine wT ?_ | refine wF ?_ | refine wC (fun h => ?_) (fun h => ?_) | refine iK ?_ | refine aI2 ?_ | (refine hK _ ?_; clear hK K) | clear hK K)
  rfl
theorem at_c0 (s : Spn) (e : Bool) : PCall Tryz.prog 47 [spT s, ft (.bool e)] (ft (.int .i64 (atS s e))) := by
  simp only [spT, spA, List.map]
  cases e
  all_goals
    simp only [atS, Bool.false_eq_true, if_true, if_false]
    refine PCall.intro (nt := 10) (rs := [.tmp 4]) Tryz.func47 rfl ⟨by kernel_rfl, by kernel_rfl, by kernel_rfl⟩ (by simp) ?_
    rintro ⟨P, w0, ok0, may, np, pblk⟩ rfl rfl
    repeat' (first | refine W.seq fun K hK => ?_ | refine W.block ?_ | ((first | refine wR ?_ | refine wD ?_ | refine W.skip ?_ | refine W.exit ?_ | refine W.ret (Post.ret ?_) | refine aP ?_ | refine aF ?_ | refine aL ?_ | refine aU ?_ | refine aM ?_ | refine aN ?_ | refine aR ?_ | refine aD ?_); simp only [go_sem, reduceCtorEq]) | refine wT ?_ | refine wF ?_ | refine wC (fun h => ?_) (fun h => ?_) | refine iK ?_ | refine aI2 ?_ | (refine hK _ ?_; clear hK K) | clear hK K)
theorem blocks_c (s : Spn) : PCall Tryz.prog 52 [spT s] (ft (.bool (s.kd != 5))) := by
  simp only [spT, spA, List.map]
  refine PCall.intro (nt := 6) (rs := [.tmp 2]) Tryz.func52 rfl ⟨by kernel_rfl, by kernel_rfl, by kernel_rfl⟩ (by simp) ?_
  rintro ⟨P, w0, ok0, may, np, pblk⟩ rfl rfl
  repeat' (first | refine W.seq fun K hK => ?_ | refine W.block ?_ | ((first | refine wR ?_ | refine wD ?_ | refine W.skip ?_ | refine W.exit ?_ | refine W.ret (Post.ret ?_) | refine aP ?_ | refine aF ?_ | refine aL ?_ | refine aU ?_ | refine aM ?_ | refine aN ?_ | refine aR ?_ | refine aD ?_); simp only [go_sem, reduceCtorEq]) | refine wT ?_ | refine wF ?_ | refine wC (fun h => ?_) (fun h => ?_) | refine iK ?_ | refine aI2 ?_ | (refine hK _ ?_; clear hK K) | clear hK K)
theorem offsets_c (v : List Of) (hI : ∀ x ∈ v, I64 x.1) : PCall Tryz.prog 35 [ofsT v] (ofmT v) := by
  refine PCall.intro (nt := 20) (rs := [.tmp 2]) Tryz.func35 rfl ⟨by kernel_rfl, by kernel_rfl, by kernel_rfl⟩ (by simp) ?_
  rintro ⟨P, w0, ok0, may, np, pblk⟩ rfl rfl
  refine W.lenB 0 rfl tE80 fun hb0 hb => ?_
  rw [List.length_map] at hb
  repeat' (first | refine W.seq fun K hK => ?_ | refine W.block ?_ | ((first | refine wR ?_ | refine wD ?_ | refine W.skip ?_ | refine W.exit ?_ | refine W.ret (Post.ret ?_) | refine aP ?_ | refine aF ?_ | refine aL ?_ | refine aU ?_ | refine aM ?_ | refine aN ?_ | refine aR ?_ | refine aD ?_); simp only [go_sem, reduceCtorEq]) | refine wT ?_ | refine wF ?_ | refine wC (fun h => ?_) (fun h => ?_) | refine iK ?_ | refine aI2 ?_ | (refine hK _ ?_; clear hK K) | clear hK K)
  refine W.loopF (T := fun i : Nat => { t := [(3, .c (.mp 0)), (7, ofsT v), (8, ft (.int .i64 v.length)), (9, ft (.int .i64 (i : Nat)))], h := [(0, .map 3 (ofE (offM (v.take i))))], nx := 1, ex := [], nt := 20 })
    (Inv := fun i => i ≤ v.length) (μ := fun i => v.length - i) (x0 := 0) (Fits.fit [(1, 0)] [3, 7, 8, 9] 1 rfl rfl ?_) (Nat.zero_le _) ?_
  · simp only [go_sem, List.take_zero, offM, List.foldl_nil, ofE, List.map_nil, List.length_map]
    exact Fits.rfl
  rintro i hi KL hKL
  by_cases hlt : i < v.length
  · obtain ⟨x, hx, hm, hd⟩ := drop_at hlt
    have e1 : decide ((i : Int) < v.length) = true := by simp; omega
    have hw := w64s i (by omega)
    have hko := koI (hI x hm)
    have hat : offM (v.take (i + 1)) = putO (offM (v.take i)) x := by simp [offM, List.take_add_one, hx]
    have hput := ofE_put (offM (v.take i)) x.1 x.2
    have hno := ofE_mget x.1 (offM (v.take i))
    have hcs : mget (.int .i64 x.1) (ofE (offM (v.take i))) = none ∨ ∃ n, mget (.int .i64 x.1) (ofE (offM (v.take i))) = some (false, [fl (.int .i64 n)]) := by
      rw [hno]
      cases getO (offM (v.take i)) x.1
      · exact .inl rfl
      · exact .inr ⟨_, rfl⟩
    clear hno
    rcases hcs with hno | ⟨n, hno⟩
    all_goals
      repeat' (first | refine W.seq fun K hK => ?_ | refine W.block ?_ | ((first | refine wR ?_ | refine wD ?_ | refine W.skip ?_ | refine W.exit ?_ | refine W.ret (Post.ret ?_) | refine aP ?_ | refine aF ?_ | refine aL ?_ | refine aU (hnn := by simp only [go_sem, reduceCtorEq, List.getElem?_map, hx, ofA, e1, hw, hput, hno]) ?_ | refine aM ?_ | refine aN ?_ | refine aR ?_ | refine aD ?_); simp only [go_sem, reduceCtorEq, List.getElem?_map, hx, ofA, e1, hw, hput, hno]) | refine wT ?_ | refine wF ?_ | refine wC (fun h => ?_) (fun h => ?_) | refine iK ?_ | refine aI2 ?_ | (refine hK _ ?_; clear hK K) | clear hK K)
    all_goals refine hKL.to (i + 1) (by omega) (by omega) (Fits.fit [(0, 0)] [3, 7, 8, 9] 1 rfl rfl ?_)
    all_goals simp only [go_sem, rnEs_ofE, hat]
    all_goals exact Fits.rfl
  · obtain rfl : i = v.length := by omega
    have e1 : decide ((v.length : Int) < v.length) = false := by simp
    clear hKL
    repeat' (first | refine W.stop (id := 7) ?_ | refine W.seq fun K hK => ?_ | refine W.block ?_ | ((first | refine wR ?_ | refine wD ?_ | refine W.skip ?_ | refine W.exit ?_ | refine W.ret (Post.ret ?_) | refine aP ?_ | refine aF ?_ | refine aL ?_ | refine aU (hnn := by simp only [go_sem, reduceCtorEq, e1]) ?_ | refine aM ?_ | refine aN ?_ | refine aR ?_ | refine aD ?_); simp only [go_sem, reduceCtorEq, e1]) | refine wT ?_ | refine wF ?_ | refine wC (fun h => ?_) (fun h => ?_) | refine iK ?_ | refine aI2 ?_ | (refine hK _ ?_; clear hK K) | clear hK K)
    refine Stop.out ?_
    refine W.fits (Fits.freezeM 0 rfl (ofE_close _) Fits.rfl) ?_
    simp only [go_sem]
    repeat' (first | refine W.seq fun K hK => ?_ | refine W.block ?_ | ((first | refine wR ?_ | refine wD ?_ | refine W.skip ?_ | refine W.exit ?_ | refine W.ret (Post.ret ?_) | refine aP ?_ | refine aF ?_ | refine aL ?_ | refine aU ?_ | refine aM ?_ | refine aN ?_ | refine aR ?_ | refine aD ?_); simp only [go_sem, reduceCtorEq]) | refine wT ?_ | refine wF ?_ | refine wC (fun h => ?_) (fun h => ?_) | refine iK ?_ | refine aI2 ?_ | (refine hK _ ?_; clear hK K) | clear hK K)
    rw [List.take_length]
theorem at_c (s : Spn) (e : Bool) (v : List Of) (hc : I64 s.clk) : PCall Tryz.prog 36 [spT s, ft (.bool e), ofmT v] (ft (.int .i64 (IntKind.i64.wrap (atS s e - offK v s.clk)))) := by
  have c1 := at_c0 s e
  have hko := koI hc
  have hg := ofE_mget s.clk (offM v)
  rw [← froE_of] at hg
  have hz : offK v s.clk = (getO (offM v) s.clk).getD 0 := rfl
  simp only [spT, spA, List.map] at c1 ⊢
  refine PCall.intro (nt := 15) (rs := [.tmp 6]) Tryz.func36 rfl ⟨by kernel_rfl, by kernel_rfl, by kernel_rfl⟩ (by simp) ?_
  rintro ⟨P, w0, ok0, may, np, pblk⟩ rfl rfl
  cases h : getO (offM v) s.clk with
  | none =>
    rw [h] at hg hz
    simp only [Option.map_none, Option.getD_none] at hg hz
    repeat' (first | refine W.seq fun K hK => ?_ | refine W.block ?_ | ((first | refine wR ?_ | refine wD ?_ | refine W.skip ?_ | refine W.exit ?_ | refine W.ret (Post.ret ?_) | refine aP ?_ | refine aF ?_ | refine aL ?_ | refine aU (hnn := by simp only [go_sem, reduceCtorEq, hg, hz]) ?_ | refine aM ?_ | refine aN ?_ | refine aR ?_ | refine aD ?_); simp only [go_sem, reduceCtorEq, hg, hz]) | refine wT ?_ | refine wF ?_ | refine wC (fun h => ?_) (fun h => ?_) | refine iK ?_ | refine aI2 ?_ | (refine hK _ ?_; clear hK K) | clear hK K)
  | some n =>
    rw [h] at hg hz
    simp only [Option.map_some, Option.getD_some] at hg hz
    repeat' (first | refine W.seq fun K hK => ?_ | refine W.block ?_ | ((first | refine wR ?_ | refine wD ?_ | refine W.skip ?_ | refine W.exit ?_ | refine W.ret (Post.ret ?_) | refine aP ?_ | refine aF ?_ | refine aL ?_ | refine aU (hnn := by simp only [go_sem, reduceCtorEq, hg, hz]) ?_ | refine aM ?_ | refine aN ?_ | refine aR ?_ | refine aD ?_); simp only [go_sem, reduceCtorEq, hg, hz]) | refine wT ?_ | refine wF ?_ | refine wC (fun h => ?_) (fun h => ?_) | refine iK ?_ | refine aI2 ?_ | (refine hK _ ?_; clear hK K) | clear hK K)
end Go.Proofs.YtaaflhmfhnfjhaaGreat
namespace Go.Proofs.YtaaflhmfhnfjhaaGreat
open Go.RowKit Go.Exe
/-! ### the error of an assignment -/
def leAt (v : List Of) (n : Nat) : Bool := match v[n]?, v[n - 1]? with
  | some a, some b => decide (a.1 ≤ b.1)
  | _, _ => false
def ordN (v : List Of) : Nat → Bool
  | 0 => false
  | n + 1 => ordN v n || (decide (0 < n) && leAt v n)
theorem ordN_mono {v : List Of} {n : Nat} : ∀ {m : Nat}, n ≤ m → ordN v n = true → ordN v m = true
  | 0, h, h' => by obtain rfl : n = 0 := by omega
                   exact h'
  | m + 1, h, h' => by
    by_cases e : n = m + 1
    · subst e; exact h'
    · simp [ordN, ordN_mono (m := m) (by omega) h']
def rngB (x : Of) : Bool := decide (x.2 < -1099511627776) || decide (x.2 > 1099511627776)
def gapB (v : List Of) (s : Spn) : Bool := (getO (offM v) s.clk).isNone
def chkE (l : List Spn) (v : List Of) : Int := if ordN v v.length then 8 else if v.any rngB then 2 else if l.any (gapB v) then 34 else 0
attribute [local irreducible] W AX Run RunD AStep AOp AOpX AStB AStH AStG Fits PCall GCall PostG Post Stop
theorem check_c (l : List Spn) (v : List Of) (hl : ∀ s ∈ l, I64 s.clk) (hv : ∀ x ∈ v, I64 x.1) : PCall Tryz.prog 20 [spsT l, ofsT v] (ft (.int .i64 (chkE l v))) := by
  have c35 := offsets_c v hv
  refine PCall.intro (nt := 68) (rs := [.tmp 4]) Tryz.func20 rfl ⟨by kernel_rfl, by kernel_rfl, by kernel_rfl⟩ (by simp) ?_
  rintro ⟨P, w0, ok0, may, np, pblk⟩ rfl rfl
  refine W.lenB 0 rfl tE36 fun hl0 hl1 => ?_
  refine W.lenB 1 rfl tE80 fun hv0 hv1 => ?_
  rw [List.length_map] at hl1 hv1
  repeat' (first | refine W.seq fun K hK => ?_ | refine W.block ?_ | ((first | refine wR ?_ | refine wD ?_ | refine W.skip ?_ | refine W.exit ?_ | refine W.ret (Post.ret ?_) | refine aP ?_ | refine aF ?_ | refine aL ?_ | refine aU ?_ | refine aM ?_ | refine aN ?_ | refine aR ?_ | refine aD ?_); simp only [go_sem, reduceCtorEq]) | refine wT ?_ | refine wF ?_ | refine wC (fun h => ?_) (fun h => ?_) | refine iK ?_ | refine aI2 ?_ | (refine hK _ ?_; clear hK K) | clear hK K)
  refine W.loopF (T := fun i : Nat => { t := [(0, spsT l), (1, ofsT v), (13, ofsT v), (14, ft (.int .i64 v.length)), (15, ft (.int .i64 (i : Nat)))], h := [], nx := 0, ex := [], nt := 68 })
    (Inv := fun i => i ≤ v.length ∧ ordN v i = false) (μ := fun i => v.length - i) (x0 := 0) (Fits.fit [] [0, 1, 13, 14, 15] 0 rfl rfl ?_) ⟨Nat.zero_le _, rfl⟩ ?_
  · simp only [go_sem, List.length_map]
    exact Fits.rfl
  rintro i ⟨hi, hinv⟩ KL hKL
  by_cases hlt : i < v.length
  · obtain ⟨x, hx, hm, hd⟩ := drop_at hlt
    have e1 : decide ((i : Int) < v.length) = true := by simp; omega
    have hw := w64s i (by omega)
    clear c35
    rcases i with _ | m
    · have e2 : decide (((0 : Nat) : Int) > 0) = false := by simp
      repeat' (first | refine W.seq fun K hK => ?_ | refine W.block ?_ | ((first | refine wR ?_ | refine wD ?_ | refine W.skip ?_ | refine W.exit ?_ | refine W.ret (Post.ret ?_) | refine aP ?_ | refine aF ?_ | refine aL ?_ | refine aU (hnn := by simp only [go_sem, reduceCtorEq, List.getElem?_map, hx, ofA, e1, hw, e2]) ?_ | refine aM ?_ | refine aN ?_ | refine aR ?_ | refine aD ?_); simp only [go_sem, reduceCtorEq, List.getElem?_map, hx, ofA, e1, hw, e2]) | refine wT ?_ | refine wF ?_ | refine wC (fun h => ?_) (fun h => ?_) | refine iK ?_ | refine aI2 ?_ | (refine hK _ ?_; clear hK K) | clear hK K)
      refine hKL.to 1 ⟨by omega, by simp [ordN]⟩ (by omega) (Fits.fit [] [0, 1, 13, 14, 15] 0 rfl rfl ?_)
      simp only [go_sem]
      exact Fits.rfl
    · have e2 : decide (((m + 1 : Nat) : Int) > 0) = true := by simp
      have e3 : IntKind.i64.wrap (((m + 1 : Nat) : Int) - 1) = (m : Int) := by rw [w64 (by omega) (by omega)]; omega
      obtain ⟨y, hy, hym, _⟩ := drop_at (show m < v.length by omega)
      have hst : ordN v (m + 1 + 1) = decide (x.1 ≤ y.1) := by
        rw [ordN, hinv]
        simp [leAt, hx, hy]
      cases hc : decide (x.1 ≤ y.1)
      · repeat' (first | refine W.seq fun K hK => ?_ | refine W.block ?_ | ((first | refine wR ?_ | refine wD ?_ | refine W.skip ?_ | refine W.exit ?_ | refine W.ret (Post.ret ?_) | refine aP ?_ | refine aF ?_ | refine aL ?_ | refine aU (hnn := by simp only [go_sem, reduceCtorEq, List.getElem?_map, hx, hy, ofA, e1, hw, e2, e3, hc]) ?_ | refine aM ?_ | refine aN ?_ | refine aR ?_ | refine aD ?_); simp only [go_sem, reduceCtorEq, List.getElem?_map, hx, hy, ofA, e1, hw, e2, e3, hc]) | refine wT ?_ | refine wF ?_ | refine wC (fun h => ?_) (fun h => ?_) | refine iK ?_ | refine aI2 ?_ | (refine hK _ ?_; clear hK K) | clear hK K)
        refine hKL.to (m + 1 + 1) ⟨by omega, by rw [hst, hc]⟩ (by omega) (Fits.fit [] [0, 1, 13, 14, 15] 0 rfl rfl ?_)
        simp only [go_sem]
        exact Fits.rfl
      · have hE : chkE l v = 8 := by
          have := ordN_mono (v := v) (n := m + 1 + 1) (m := v.length) (by omega) (by rw [hst, hc])
          simp [chkE, this]
        clear hKL
        repeat' (first | refine W.seq fun K hK => ?_ | refine W.block ?_ | ((first | refine wR ?_ | refine wD ?_ | refine W.skip ?_ | refine W.exit ?_ | refine W.ret (Post.ret ?_) | refine aP ?_ | refine aF ?_ | refine aL ?_ | refine aU (hnn := by simp only [go_sem, reduceCtorEq, List.getElem?_map, hx, hy, ofA, e1, hw, e2, e3, hc, hE]) ?_ | refine aM ?_ | refine aN ?_ | refine aR ?_ | refine aD ?_); simp only [go_sem, reduceCtorEq, List.getElem?_map, hx, hy, ofA, e1, hw, e2, e3, hc, hE]) | refine wT ?_ | refine wF ?_ | refine wC (fun h => ?_) (fun h => ?_) | refine iK ?_ | refine aI2 ?_ | (refine hK _ ?_; clear hK K) | clear hK K)
  obtain rfl : i = v.length := by omega
  have e1 : decide ((v.length : Int) < v.length) = false := by simp
  clear hKL
  have hE0 : chkE l v = if v.any rngB then 2 else if l.any (gapB v) then 34 else 0 := by simp [chkE, hinv]
  repeat' (first | refine W.seq fun K hK => ?_ | refine W.block ?_ | ((first | refine wR ?_ | refine wD ?_ | refine W.skip ?_ | refine W.exit ?_ | refine W.ret (Post.ret ?_) | refine aP ?_ | refine aF ?_ | refine aL ?_ | refine aU (hnn := by simp only [go_sem, reduceCtorEq, e1, List.length_map]) ?_ | refine aM ?_ | refine aN ?_ | refine aR ?_ | refine aD ?_); simp only [go_sem, reduceCtorEq, e1, List.length_map]) | refine wT ?_ | refine wF ?_ | refine wC (fun h => ?_) (fun h => ?_) | refine iK ?_ | refine aI2 ?_ | (refine hK _ ?_; clear hK K) | clear hK K)
  refine W.loopF (T := fun i : Nat => { t := [(0, spsT l), (1, ofsT v), (35, ofsT v), (36, ft (.int .i64 v.length)), (37, ft (.int .i64 (i : Nat)))], h := [], nx := 0, ex := [], nt := 68 })
    (Inv := fun i => i ≤ v.length ∧ ∀ x ∈ v.take i, rngB x = false) (μ := fun i => v.length - i) (x0 := 0) (Fits.fit [] [0, 1, 35, 36, 37] 0 rfl rfl ?_) ⟨Nat.zero_le _, by simp⟩ ?_
  · simp only [go_sem]
    exact Fits.rfl
  clear hinv hi e1
  rintro i ⟨hi, hinv⟩ KL hKL
  by_cases hlt : i < v.length
  · obtain ⟨x, hx, hm, hd⟩ := drop_at hlt
    have e1 : decide ((i : Int) < v.length) = true := by simp; omega
    have hw := w64s i (by omega)
    have hnext : rngB x = false → ∀ y ∈ v.take (i + 1), rngB y = false := fun h y hy => by
      rw [List.take_add_one, hx] at hy
      rcases List.mem_append.1 hy with hy | hy
      · exact hinv y hy
      · simp at hy; subst hy; exact h
    have hyes : rngB x = true → chkE l v = 2 := fun h => by
      have : v.any rngB = true := List.any_eq_true.2 ⟨x, hm, h⟩
      rw [hE0, this]; rfl
    have hr : rngB x = (decide (x.2 < -1099511627776) || decide (x.2 > 1099511627776)) := rfl
    clear c35 hE0
    cases h1 : decide (x.2 < -1099511627776)
    · rw [h1, Bool.false_or] at hr
      cases h2 : decide (x.2 > 1099511627776)
      · rw [h2] at hr
        repeat' (first | refine W.seq fun K hK => ?_ | refine W.block ?_ | ((first | refine wR ?_ | refine wD ?_ | refine W.skip ?_ | refine W.exit ?_ | refine W.ret (Post.ret ?_) | refine aP ?_ | refine aF ?_ | refine aL ?_ | refine aU (hnn := by simp only [go_sem, reduceCtorEq, List.getElem?_map, hx, ofA, e1, hw, h1, h2]) ?_ | refine aM ?_ | refine aN ?_ | refine aR ?_ | refine aD ?_); simp only [go_sem, reduceCtorEq, List.getElem?_map, hx, ofA, e1, hw, h1, h2]) | refine wT ?_ | refine wF ?_ | refine wC (fun h => ?_) (fun h => ?_) | refine iK ?_ | refine aI2 ?_ | (refine hK _ ?_; clear hK K) | clear hK K)
        refine hKL.to (i + 1) ⟨by omega, hnext hr⟩ (by omega) (Fits.fit [] [0, 1, 35, 36, 37] 0 rfl rfl ?_)
        simp only [go_sem]
        exact Fits.rfl
      · rw [h2] at hr
        have hE := hyes hr
        clear hKL
        repeat' (first | refine W.seq fun K hK => ?_ | refine W.block ?_ | ((first | refine wR ?_ | refine wD ?_ | refine W.skip ?_ | refine W.exit ?_ | refine W.ret (Post.ret ?_) | refine aP ?_ | refine aF ?_ | refine aL ?_ | refine aU (hnn := by simp only [go_sem, reduceCtorEq, List.getElem?_map, hx, ofA, e1, hw, h1, h2, hE]) ?_ | refine aM ?_ | refine aN ?_ | refine aR ?_ | refine aD ?_); simp only [go_sem, reduceCtorEq, List.getElem?_map, hx, ofA, e1, hw, h1, h2, hE]) | refine wT ?_ | refine wF ?_ | refine wC (fun h => ?_) (fun h => ?_) | refine iK ?_ | refine aI2 ?_ | (refine hK _ ?_; clear hK K) | clear hK K)
    · rw [h1, Bool.true_or] at hr
      have hE := hyes hr
      clear hKL
      repeat' (first | refine W.seq fun K hK => ?_ | refine W.block ?_ | ((first | refine wR ?_ | refine wD ?_ | refine W.skip ?_ | refine W.exit ?_ | refine W.ret (Post.ret ?_) | refine aP ?_ | refine aF ?_ | refine aL ?_ | refine aU (hnn := by simp only [go_sem, reduceCtorEq, List.getElem?_map, hx, ofA, e1, hw, h1, hE]) ?_ | refine aM ?_ | refine aN ?_ | refine aR ?_ | refine aD ?_); simp only [go_sem, reduceCtorEq, List.getElem?_map, hx, ofA, e1, hw, h1, hE]) | refine wT ?_ | refine wF ?_ | refine wC (fun h => ?_) (fun h => ?_) | refine iK ?_ | refine aI2 ?_ | (refine hK _ ?_; clear hK K) | clear hK K)
  obtain rfl : i = v.length := by omega
  have e1 : decide ((v.length : Int) < v.length) = false := by simp
  clear hKL
  rw [List.take_length] at hinv
  have hE1 : chkE l v = if l.any (gapB v) then 34 else 0 := by
    have : v.any rngB = false := by
      rw [List.any_eq_false]
      exact fun x hx => by rw [hinv x hx]; simp
    rw [hE0, this]; rfl
  repeat' (first | refine W.seq fun K hK => ?_ | refine W.block ?_ | ((first | refine wR ?_ | refine wD ?_ | refine W.skip ?_ | refine W.exit ?_ | refine W.ret (Post.ret ?_) | refine aP ?_ | refine aF ?_ | refine aL ?_ | refine aU (hnn := by simp only [go_sem, reduceCtorEq, e1, List.length_map]) ?_ | refine aM ?_ | refine aN ?_ | refine aR ?_ | refine aD ?_); simp only [go_sem, reduceCtorEq, e1, List.length_map]) | refine wT ?_ | refine wF ?_ | refine wC (fun h => ?_) (fun h => ?_) | refine iK ?_ | refine aI2 ?_ | (refine hK _ ?_; clear hK K) | clear hK K)
  refine W.loopF (T := fun i : Nat => { t := [(8, ofmT v), (52, spsT l), (53, ft (.int .i64 l.length)), (54, ft (.int .i64 (i : Nat)))], h := [], nx := 0, ex := [], nt := 68 })
    (Inv := fun i => i ≤ l.length ∧ ∀ x ∈ l.take i, gapB v x = false) (μ := fun i => l.length - i) (x0 := 0) (Fits.fit [] [8, 52, 53, 54] 0 rfl rfl ?_) ⟨Nat.zero_le _, by simp⟩ ?_
  · simp only [go_sem, List.length_map]
    exact Fits.rfl
  clear hinv hi e1 c35 hE0
  rintro i ⟨hi, hinv⟩ KL hKL
  by_cases hlt : i < l.length
  · obtain ⟨x, hx, hm, hd⟩ := drop_at hlt
    have e1 : decide ((i : Int) < l.length) = true := by simp; omega
    have hw := w64s i (by omega)
    have hko := koI (hl x hm)
    have hg := ofE_mget x.clk (offM v)
    rw [← froE_of] at hg
    cases hgo : getO (offM v) x.clk with
    | none =>
      have hE : chkE l v = 34 := by
        have : l.any (gapB v) = true := List.any_eq_true.2 ⟨x, hm, by simp [gapB, hgo]⟩
        rw [hE1, this]; rfl
      rw [hgo, Option.map_none] at hg
      clear hKL
      repeat' (first | refine W.seq fun K hK => ?_ | refine W.block ?_ | ((first | refine wR ?_ | refine wD ?_ | refine W.skip ?_ | refine W.exit ?_ | refine W.ret (Post.ret ?_) | refine aP ?_ | refine aF ?_ | refine aL ?_ | refine aU (hnn := by simp only [go_sem, reduceCtorEq, List.getElem?_map, hx, spA, e1, hw, hg, hE]) ?_ | refine aM ?_ | refine aN ?_ | refine aR ?_ | refine aD ?_); simp only [go_sem, reduceCtorEq, List.getElem?_map, hx, spA, e1, hw, hg, hE]) | refine wT ?_ | refine wF ?_ | refine wC (fun h => ?_) (fun h => ?_) | refine iK ?_ | refine aI2 ?_ | (refine hK _ ?_; clear hK K) | clear hK K)
    | some n =>
      rw [hgo, Option.map_some] at hg
      repeat' (first | refine W.seq fun K hK => ?_ | refine W.block ?_ | ((first | refine wR ?_ | refine wD ?_ | refine W.skip ?_ | refine W.exit ?_ | refine W.ret (Post.ret ?_) | refine aP ?_ | refine aF ?_ | refine aL ?_ | refine aU (hnn := by simp only [go_sem, reduceCtorEq, List.getElem?_map, hx, spA, e1, hw, hg]) ?_ | refine aM ?_ | refine aN ?_ | refine aR ?_ | refine aD ?_); simp only [go_sem, reduceCtorEq, List.getElem?_map, hx, spA, e1, hw, hg]) | refine wT ?_ | refine wF ?_ | refine wC (fun h => ?_) (fun h => ?_) | refine iK ?_ | refine aI2 ?_ | (refine hK _ ?_; clear hK K) | clear hK K)
      refine hKL.to (i + 1) ⟨by omega, fun y hy => ?_⟩ (by omega) (Fits.fit [] [8, 52, 53, 54] 0 rfl rfl ?_)
      · rw [List.take_add_one, hx] at hy
        rcases List.mem_append.1 hy with hy | hy
        · exact hinv y hy
        · simp at hy; subst hy; simp [gapB, hgo]
      · simp only [go_sem]
        exact Fits.rfl
  obtain rfl : i = l.length := by omega
  have e1 : decide ((l.length : Int) < l.length) = false := by simp
  clear hKL
  rw [List.take_length] at hinv
  have hE : chkE l v = 0 := by
    have : l.any (gapB v) = false := by
      rw [List.any_eq_false]
      exact fun x hx => by rw [hinv x hx]; simp
    rw [hE1, this]; rfl
  repeat' (first | refine W.seq fun K hK => ?_ | refine W.block ?_ | ((first | refine wR ?_ | refine wD ?_ | refine W.skip ?_ | refine W.exit ?_ | refine W.ret (Post.ret ?_) | refine aP ?_ | refine aF ?_ | refine aL ?_ | refine aU (hnn := by simp only [go_sem, reduceCtorEq, e1, hE]) ?_ | refine aM ?_ | refine aN ?_ | refine aR ?_ | refine aD ?_); simp only [go_sem, reduceCtorEq, e1, hE]) | refine wT ?_ | refine wF ?_ | refine wC (fun h => ?_) (fun h => ?_) | refine iK ?_ | refine aI2 ?_ | (refine hK _ ?_; clear hK K) | clear hK K)
end Go.Proofs.YtaaflhmfhnfjhaaGreat
namespace Go.Proofs.YtaaflhmfhnfjhaaGreat
open Go.RowKit Go.Exe
/-! ### Time, Lengths, find, Contains -/
def spOfR (l : List Spn) (r : Rf) : Option Spn := l.find? fun s => s.tr == r.1 && s.id == r.2
/-- The time of an event: its span's local time less the offset. -/
def timE (l : List Spn) (v : List Of) (x : Ev) : Option Int := (spOfR l (x.tr, x.id)).map fun s => IntKind.i64.wrap (atS s x.en - offK v s.clk)
def timT (l : List Spn) (v : List Of) (x : Ev) : TV := if chkE l v ≠ 0 then .t [(false, [fl (.int .i64 0)]), (false, [fl (.int .i64 (chkE l v))])] else match timE l v x with
  | some n => .t [(false, [fl (.int .i64 n)]), (false, [fl (.int .i64 0)])]
  | none => .t [(false, [fl (.int .i64 0)]), (false, [fl (.int .i64 10)])]
attribute [local irreducible] W AX Run RunD AStep AOp AOpX AStB AStH AStG Fits PCall GCall PostG Post Stop
theorem time_c (l : List Spn) (v : List Of) (x : Ev) (hl : ∀ s ∈ l, I64 s.clk) (hv : ∀ x ∈ v, I64 x.1) : PCall Tryz.prog 22 [spsT l, ofsT v, evT x] (timT l v x) := by
  have c20 := check_c l v hl hv
  have c35 := offsets_c v hv
  simp only [evT, evA, List.map]
  by_cases h0 : chkE l v = 0
  rotate_left
  · have e0 : (chkE l v != 0) = true := by simp [h0]
    simp only [timT, if_pos h0]
    refine PCall.intro (nt := 35) (rs := [.tmp 6, .tmp 7]) Tryz.func22 rfl ⟨by kernel_rfl, by kernel_rfl, by kernel_rfl⟩ (by simp) ?_
    rintro ⟨P, w0, ok0, may, np, pblk⟩ rfl rfl
    repeat' (first | refine W.seq fun K hK => ?_ | refine W.block ?_ | ((first | refine wR ?_ | refine wD ?_ | refine W.skip ?_ | refine W.exit ?_ | refine W.ret (Post.ret ?_) | refine aP ?_ | refine aF ?_ | refine aL ?_ | refine aU (hnn := by simp only [go_sem, reduceCtorEq, e0]) ?_ | refine aM ?_ | refine aN ?_ | refine aR ?_ | refine aD ?_ | refine aE ?_); simp only [go_sem, reduceCtorEq, e0]) | refine wT ?_ | refine wF ?_ | refine wC (fun h => ?_) (fun h => ?_) | refine iK ?_ | refine aI2 ?_ | (refine hK _ ?_; clear hK K) | clear hK K)
  rw [h0] at c20
  have hT : timT l v x = match timE l v x with
    | some n => .t [(false, [fl (.int .i64 n)]), (false, [fl (.int .i64 0)])]
    | none => .t [(false, [fl (.int .i64 0)]), (false, [fl (.int .i64 10)])] := by simp [timT, h0]
  rw [hT]
  have hG := eqG56
  refine PCall.intro (nt := 35) (rs := [.tmp 6, .tmp 7]) Tryz.func22 rfl ⟨by kernel_rfl, by kernel_rfl, by kernel_rfl⟩ (by simp) ?_
  rintro ⟨P, w0, ok0, may, np, pblk⟩ rfl rfl
  refine W.lenB 0 rfl tE36 fun hl0 hl1 => ?_
  rw [List.length_map] at hl1
  repeat' (first | refine W.seq fun K hK => ?_ | refine W.block ?_ | ((first | refine wR ?_ | refine wD ?_ | refine W.skip ?_ | refine W.exit ?_ | refine W.ret (Post.ret ?_) | refine aP ?_ | refine aF ?_ | refine aL ?_ | refine aU ?_ | refine aM ?_ | refine aN ?_ | refine aR ?_ | refine aD ?_ | refine aE ?_); simp only [go_sem, reduceCtorEq]) | refine wT ?_ | refine wF ?_ | refine wC (fun h => ?_) (fun h => ?_) | refine iK ?_ | refine aI2 ?_ | (refine hK _ ?_; clear hK K) | clear hK K)
  refine W.loopF (T := fun i : Nat => { t := [(1, ofsT v), (5, .c (.ptr 0 0)), (6, ft (.int .i64 0)), (7, ft (.int .i64 0)), (17, spsT l), (18, ft (.int .i64 l.length)), (19, ft (.int .i64 (i : Nat)))], h := [(0, .box 52 [fl (.int .i64 x.tr), fl (.int .i64 x.id), fl (.bool x.en)])], nx := 1, ex := [], nt := 35 })
    (Inv := fun i => i ≤ l.length ∧ ∀ s ∈ l.take i, (s.tr == x.tr && s.id == x.id) = false) (μ := fun i => l.length - i) (x0 := 0) (Fits.fit [(0, 0)] [1, 5, 6, 7, 17, 18, 19] 1 rfl rfl ?_) ⟨Nat.zero_le _, by simp⟩ ?_
  · simp only [go_sem, List.length_map]
    exact Fits.rfl
  clear c20
  rintro i ⟨hi, hinv⟩ KL hKL
  by_cases hlt : i < l.length
  · obtain ⟨s, hx, hm, hd⟩ := drop_at hlt
    have e1 : decide ((i : Int) < l.length) = true := by simp; omega
    have hw := w64s i (by omega)
    have c46 := refOf_c s
    have hE := fun w => eqRef s.tr s.id x.tr x.id w
    simp only [spT, spA, refA, List.map] at c46
    cases hc : (s.tr == x.tr && s.id == x.id)
    · simp only [hc] at hE
      clear c35
      repeat' (first | refine W.seq fun K hK => ?_ | refine W.block ?_ | ((first | refine wR ?_ | refine wD ?_ | refine W.skip ?_ | refine W.exit ?_ | refine W.ret (Post.ret ?_) | refine aP ?_ | refine aF ?_ | refine aL ?_ | refine aU (hnn := by simp only [go_sem, reduceCtorEq, List.getElem?_map, hx, spA, e1, hw]) ?_ | refine aM ?_ | refine aN ?_ | refine aR ?_ | refine aD ?_ | refine aE ?_); simp only [go_sem, reduceCtorEq, List.getElem?_map, hx, spA, e1, hw]) | refine wT ?_ | refine wF ?_ | refine wC (fun h => ?_) (fun h => ?_) | refine iK ?_ | refine aI2 ?_ | (refine hK _ ?_; clear hK K) | clear hK K)
      refine hKL.to (i + 1) ⟨by omega, fun y hy => ?_⟩ (by omega) (Fits.fit [(0, 0)] [1, 5, 6, 7, 17, 18, 19] 1 rfl rfl ?_)
      · rw [List.take_add_one, hx] at hy
        rcases List.mem_append.1 hy with hy | hy
        · exact hinv y hy
        · simp at hy; subst hy; exact hc
      · simp only [go_sem]
        exact Fits.rfl
    · simp only [hc] at hE
      have hf : timE l v x = some (IntKind.i64.wrap (atS s x.en - offK v s.clk)) := by
        have : spOfR l (x.tr, x.id) = some s := by
          unfold spOfR
          rw [List.find?_eq_some_iff_getElem]
          obtain ⟨h1, h2⟩ := List.getElem?_eq_some_iff.1 hx
          refine ⟨hc, i, h1, h2, fun j hj => ?_⟩
          have := hinv l[j] (List.mem_of_getElem? (i := j) (by rw [List.getElem?_take, if_pos hj, List.getElem?_eq_getElem]))
          simp [this]
        simp [timE, this]
      have c36 := at_c s x.en v (hl s hm)
      simp only [spT, spA, List.map] at c36
      clear hKL
      repeat' (first | refine W.seq fun K hK => ?_ | refine W.block ?_ | ((first | refine wR ?_ | refine wD ?_ | refine W.skip ?_ | refine W.exit ?_ | refine W.ret (Post.ret ?_) | refine aP ?_ | refine aF ?_ | refine aL ?_ | refine aU (hnn := by simp only [go_sem, reduceCtorEq, List.getElem?_map, hx, spA, e1, hw, hf]) ?_ | refine aM ?_ | refine aN ?_ | refine aR ?_ | refine aD ?_ | refine aE ?_); simp only [go_sem, reduceCtorEq, List.getElem?_map, hx, spA, e1, hw, hf]) | refine wT ?_ | refine wF ?_ | refine wC (fun h => ?_) (fun h => ?_) | refine iK ?_ | refine aI2 ?_ | (refine hK _ ?_; clear hK K) | clear hK K)
  obtain rfl : i = l.length := by omega
  have e1 : decide ((l.length : Int) < l.length) = false := by simp
  rw [List.take_length] at hinv
  have hf : timE l v x = none := by
    have : spOfR l (x.tr, x.id) = none := by
      unfold spOfR
      rw [List.find?_eq_none]
      exact fun y hy => by simp [hinv y hy]
    simp [timE, this]
  clear hKL
  repeat' (first | refine W.seq fun K hK => ?_ | refine W.block ?_ | ((first | refine wR ?_ | refine wD ?_ | refine W.skip ?_ | refine W.exit ?_ | refine W.ret (Post.ret ?_) | refine aP ?_ | refine aF ?_ | refine aL ?_ | refine aU (hnn := by simp only [go_sem, reduceCtorEq, e1, hf]) ?_ | refine aM ?_ | refine aN ?_ | refine aR ?_ | refine aD ?_ | refine aE ?_); simp only [go_sem, reduceCtorEq, e1, hf]) | refine wT ?_ | refine wF ?_ | refine wC (fun h => ?_) (fun h => ?_) | refine iK ?_ | refine aI2 ?_ | (refine hK _ ?_; clear hK K) | clear hK K)
end Go.Proofs.YtaaflhmfhnfjhaaGreat
namespace Go.Proofs.YtaaflhmfhnfjhaaGreat
open Go.RowKit Go.Exe
theorem timT_n {l : List Spn} {v : List Of} {x : Ev} (h0 : chkE l v = 0) (h : timE l v x = none) : timT l v x = .t [(false, [fl (.int .i64 0)]), (false, [fl (.int .i64 10)])] := by simp [timT, h0, h]
theorem timT_s {l : List Spn} {v : List Of} {x : Ev} {n : Int} (h0 : chkE l v = 0) (h : timE l v x = some n) : timT l v x = .t [(false, [fl (.int .i64 n)]), (false, [fl (.int .i64 0)])] := by simp [timT, h0, h]
/-- The lengths of segments, if all their events have times. -/
def lenS (l : List Spn) (v : List Of) : List Sg → Option (List Int)
  | [] => some []
  | s :: r => match timE l v s.fr, timE l v s.to, lenS l v r with
    | some a, some b, some q => some (IntKind.i64.wrap (b - a) :: q)
    | _, _, _ => none
theorem lenS_snoc {l : List Spn} {v : List Of} {s : Sg} {a b : Int} (ha : timE l v s.fr = some a) (hb : timE l v s.to = some b) : ∀ {p : List Sg} {L : List Int}, lenS l v p = some L → lenS l v (p ++ [s]) = some (L ++ [IntKind.i64.wrap (b - a)])
  | [], L, h => by simp [lenS] at h; subst h; simp [lenS, ha, hb]
  | x :: p, L, h => by
    simp only [lenS] at h
    split at h
    · rename_i u w q h1 h2 h3
      cases h
      have := lenS_snoc ha hb h3
      simp [lenS, h1, h2, this]
    · cases h
theorem lenS_none {l : List Spn} {v : List Of} {s : Sg} (h : timE l v s.fr = none ∨ timE l v s.to = none) : ∀ {p : List Sg}, s ∈ p → lenS l v p = none
  | x :: p, hs => by
    rcases List.mem_cons.1 hs with rfl | hs
    · rcases h with h | h
      · simp [lenS, h]
      · simp only [lenS, h]; split <;> simp_all
    · have := lenS_none h hs
      simp only [lenS, this]; split <;> simp_all
theorem lenS_len {l : List Spn} {v : List Of} : ∀ {p : List Sg} {L : List Int}, lenS l v p = some L → L.length = p.length
  | [], L, h => by simp [lenS] at h; subst h; rfl
  | x :: p, L, h => by
    simp only [lenS] at h
    split at h
    · rename_i u w q h1 h2 h3
      cases h
      simp [lenS_len h3]
    · cases h
def nilT (e : Int) : TV := .t [(false, [fl (.slice none 0 0)]), (false, [fl (.int .i64 e)])]
def lenT (l : List Spn) (v : List Of) (p : List Sg) : TV := if chkE l v ≠ 0 then nilT (chkE l v) else match lenS l v p with
  | some L => .t [(false, [.im (.sl 3 (L.map iA))]), (false, [fl (.int .i64 0)])]
  | none => nilT 10
theorem snocI (L : List Int) (n : Int) : imR ((L ++ [n]).map iA) = imR (L.map iA) ++ [[.im (.flat (.int .i64 n))]] := by simp [imR, imL, iA]
attribute [local irreducible] W AX Run RunD AStep AOp AOpX AStB AStH AStG Fits PCall GCall PostG Post Stop
theorem lengths_c (l : List Spn) (v : List Of) (p : List Sg) (hl : ∀ s ∈ l, I64 s.clk) (hv : ∀ x ∈ v, I64 x.1) : PCall Tryz.prog 24 [spsT l, ofsT v, sgsT p] (lenT l v p) := by
  have c20 := check_c l v hl hv
  have c22 := fun x => time_c l v x hl hv
  by_cases h0 : chkE l v = 0
  rotate_left
  · have e0 : (chkE l v != 0) = true := by simp [h0]
    simp only [lenT, if_pos h0, nilT]
    clear c22
    refine PCall.intro (nt := 58) (rs := [.tmp 6, .tmp 7]) Tryz.func24 rfl ⟨by kernel_rfl, by kernel_rfl, by kernel_rfl⟩ (by simp) ?_
    rintro ⟨P, w0, ok0, may, np, pblk⟩ rfl rfl
    repeat' (first | refine W.seq fun K hK => ?_ | refine W.block ?_ | ((first | refine wR ?_ | refine wD ?_ | refine W.skip ?_ | refine W.exit ?_ | refine W.ret (Post.ret ?_) | refine aP ?_ | refine aF ?_ | refine aL ?_ | refine aU (hnn := by simp only [go_sem, reduceCtorEq, e0]) ?_ | refine aM ?_ | refine aN ?_ | refine aR ?_ | refine aD ?_); simp only [go_sem, reduceCtorEq, e0]) | refine wT ?_ | refine wF ?_ | refine wC (fun h => ?_) (fun h => ?_) | refine iK ?_ | refine aI2 ?_ | (refine hK _ ?_; clear hK K) | clear hK K)
  rw [h0] at c20
  refine PCall.intro (nt := 58) (rs := [.tmp 6, .tmp 7]) Tryz.func24 rfl ⟨by kernel_rfl, by kernel_rfl, by kernel_rfl⟩ (by simp) ?_
  rintro ⟨P, w0, ok0, may, np, pblk⟩ rfl rfl
  refine W.lenB 2 rfl tE66 fun hl0 hl1 => ?_
  rw [List.length_map] at hl1
  repeat' (first | refine W.seq fun K hK => ?_ | refine W.block ?_ | ((first | refine wR ?_ | refine wD ?_ | refine W.skip ?_ | refine W.exit ?_ | refine W.ret (Post.ret ?_) | refine aP ?_ | refine aF ?_ | refine aL ?_ | refine aU ?_ | refine aM ?_ | refine aN ?_ | refine aR ?_ | refine aD ?_); simp only [go_sem, reduceCtorEq]) | refine wT ?_ | refine wF ?_ | refine wC (fun h => ?_) (fun h => ?_) | refine iK ?_ | refine aI2 ?_ | (refine hK _ ?_; clear hK K) | clear hK K)
  refine W.loopF (T := fun x : Nat × List Int => { t := [(0, spsT l), (1, ofsT v), (6, ft (.slice none 0 0)), (7, ft (.int .i64 0)), (9, .c (.ref 0)), (22, sgsT p), (23, ft (.int .i64 p.length)), (24, ft (.int .i64 (x.1 : Nat)))], h := [(0, .row 3 (imR (x.2.map iA)))], nx := 1, ex := [], nt := 58 })
    (Inv := fun x => x.1 ≤ p.length ∧ lenS l v (p.take x.1) = some x.2) (μ := fun x => p.length - x.1) (x0 := (0, [])) ?_ ⟨Nat.zero_le _, rfl⟩ ?_
  · refine Fits.adopt 9 99 3 rfl rfl rfl tE3 rfl ?_
    refine Fits.fit [(99, 0)] [0, 1, 6, 7, 9, 22, 23, 24] 1 rfl rfl ?_
    simp only [go_sem, List.length_map, List.map_nil, imR_nil]
    exact Fits.rfl
  clear c20
  rintro ⟨i, L⟩ ⟨hi, hinv⟩ KL hKL
  dsimp only at hi hinv hKL ⊢
  by_cases hlt : i < p.length
  · obtain ⟨s, hx, hm, hd⟩ := drop_at hlt
    have e1 : decide ((i : Int) < p.length) = true := by simp; omega
    have hw := w64s i (by omega)
    have hLl := lenS_len hinv
    rw [List.length_take] at hLl
    have c1 := c22 s.fr
    have c2 := c22 s.to
    clear c22
    have n10 : ((10 : Int) != 0) = true := by decide
    have hno : timE l v s.fr = none ∨ timE l v s.to = none → lenT l v p = nilT 10 := fun h => by simp [lenT, h0, lenS_none h hm]
    simp only [evT, evA, List.map] at c1 c2
    cases hf : timE l v s.fr with
    | none =>
      have hN := hno (.inl hf)
      rw [timT_n h0 hf] at c1
      cases ht : timE l v s.to with
      | none =>
        rw [timT_n h0 ht] at c2
        clear hKL
        repeat' (first | refine W.seq fun K hK => ?_ | refine W.block ?_ | ((first | refine wR ?_ | refine wD ?_ | refine W.skip ?_ | refine W.exit ?_ | refine W.ret (Post.ret ?_) | refine aP ?_ | refine aF ?_ | refine aL ?_ | refine aU (hnn := by simp only [go_sem, reduceCtorEq, List.getElem?_map, hx, sgA, e1, hN, nilT, n10]) ?_ | refine aM ?_ | refine aN ?_ | refine aR ?_ | refine aD ?_); simp only [go_sem, reduceCtorEq, List.getElem?_map, hx, sgA, e1, hN, nilT, n10]) | refine wT ?_ | refine wF ?_ | refine wC (fun h => ?_) (fun h => ?_) | refine iK ?_ | refine aI2 ?_ | (refine hK _ ?_; clear hK K) | clear hK K)
      | some b =>
        rw [timT_s h0 ht] at c2
        clear hKL
        repeat' (first | refine W.seq fun K hK => ?_ | refine W.block ?_ | ((first | refine wR ?_ | refine wD ?_ | refine W.skip ?_ | refine W.exit ?_ | refine W.ret (Post.ret ?_) | refine aP ?_ | refine aF ?_ | refine aL ?_ | refine aU (hnn := by simp only [go_sem, reduceCtorEq, List.getElem?_map, hx, sgA, e1, hN, nilT, n10]) ?_ | refine aM ?_ | refine aN ?_ | refine aR ?_ | refine aD ?_); simp only [go_sem, reduceCtorEq, List.getElem?_map, hx, sgA, e1, hN, nilT, n10]) | refine wT ?_ | refine wF ?_ | refine wC (fun h => ?_) (fun h => ?_) | refine iK ?_ | refine aI2 ?_ | (refine hK _ ?_; clear hK K) | clear hK K)
    | some a =>
      rw [timT_s h0 hf] at c1
      cases ht : timE l v s.to with
      | none =>
        have hN := hno (.inr ht)
        rw [timT_n h0 ht] at c2
        clear hKL
        repeat' (first | refine W.seq fun K hK => ?_ | refine W.block ?_ | ((first | refine wR ?_ | refine wD ?_ | refine W.skip ?_ | refine W.exit ?_ | refine W.ret (Post.ret ?_) | refine aP ?_ | refine aF ?_ | refine aL ?_ | refine aU (hnn := by simp only [go_sem, reduceCtorEq, List.getElem?_map, hx, sgA, e1, hN, nilT, n10]) ?_ | refine aM ?_ | refine aN ?_ | refine aR ?_ | refine aD ?_); simp only [go_sem, reduceCtorEq, List.getElem?_map, hx, sgA, e1, hN, nilT, n10]) | refine wT ?_ | refine wF ?_ | refine wC (fun h => ?_) (fun h => ?_) | refine iK ?_ | refine aI2 ?_ | (refine hK _ ?_; clear hK K) | clear hK K)
      | some b =>
        rw [timT_s h0 ht] at c2
        have hst := lenS_snoc hf ht hinv
        rw [← take_at hx] at hst
        clear hno
        repeat' (first | refine W.seq fun K hK => ?_ | refine W.block ?_ | ((first | refine wR ?_ | refine wD ?_ | refine W.skip ?_ | refine W.exit ?_ | refine W.ret (Post.ret ?_) | refine aP ?_ | refine aF ?_ | refine aL ?_ | refine aU (hnn := by simp only [go_sem, reduceCtorEq, List.getElem?_map, hx, sgA, e1, hw, imR_len, List.length_map]) ?_ | refine aM ?_ | refine aN ?_ | refine aR ?_ | refine aD ?_); simp only [go_sem, reduceCtorEq, List.getElem?_map, hx, sgA, e1, hw, imR_len, List.length_map]) | refine wT ?_ | refine wF ?_ | refine wC (fun h => ?_) (fun h => ?_) | refine iK ?_ | refine aI2 ?_ | (refine hK _ ?_; clear hK K) | clear hK K)
        refine hKL.to (i + 1, L ++ [IntKind.i64.wrap (b - a)]) ⟨by simp; omega, hst⟩ (by simp; omega) (Fits.fit [(37, 0)] [0, 1, 6, 7, 9, 22, 23, 24] 1 rfl rfl ?_)
        simp only [go_sem, snocI]
        exact Fits.rfl
  obtain rfl : i = p.length := by omega
  rw [List.take_length] at hinv
  have e1 : decide ((p.length : Int) < p.length) = false := by simp
  have hN : lenT l v p = .t [(false, [.im (.sl 3 (L.map iA))]), (false, [fl (.int .i64 0)])] := by simp [lenT, h0, hinv]
  clear hKL c22
  repeat' (first | refine W.seq fun K hK => ?_ | refine W.block ?_ | ((first | refine wR ?_ | refine wD ?_ | refine W.skip ?_ | refine W.exit ?_ | refine W.ret (Post.ret ?_) | refine aP ?_ | refine aF ?_ | refine aL ?_ | refine aU (hnn := by simp only [go_sem, reduceCtorEq, e1, hN]) ?_ | refine aM ?_ | refine aN ?_ | refine aR ?_ | refine aD ?_); simp only [go_sem, reduceCtorEq, e1, hN]) | refine wT ?_ | refine wF ?_ | refine wC (fun h => ?_) (fun h => ?_) | refine iK ?_ | refine aI2 ?_ | (refine hK _ ?_; clear hK K) | clear hK K)
end Go.Proofs.YtaaflhmfhnfjhaaGreat
namespace Go.Proofs.YtaaflhmfhnfjhaaGreat
open Go.RowKit Go.Exe
def zSpn : List Cell := [fl (.int .i64 0), fl (.int .i64 0), fl (.int .i64 0), fl (.int .i64 0), fl (.int .i64 0), fl (.int .i64 0), fl (.string .empty), fl (.string .empty), fl (.string .empty), fl (.int .i64 0), fl (.int .i64 0), fl (.bool false), fl (.slice none 0 0), fl (.slice none 0 0)]
def spId (l : List Spn) (id : Int) : Option Spn := l.find? fun s => s.id == id
def findT (l : List Spn) (id : Int) : TV := match spId l id with
  | some s => .t [(true, (spA s).map .im), (false, [fl (.bool true)])]
  | none => .t [(true, zSpn), (false, [fl (.bool false)])]
attribute [local irreducible] W AX Run RunD AStep AOp AOpX AStB AStH AStG Fits PCall GCall PostG Post Stop
theorem find1_c (id : Int) (s : Spn) : PCall Tryz.prog 60 (spT s :: [AV.pt [.flat (.int .i64 id)]].map fun c => .c (.im c)) (ft (.bool (s.id == id))) := by
  simp only [spT, spA, List.map]
  refine PCall.intro (nt := 8) (rs := [.tmp 3]) Tryz.func60 rfl ⟨by kernel_rfl, by kernel_rfl, by kernel_rfl⟩ (by simp) ?_
  rintro ⟨P, w0, ok0, may, np, pblk⟩ rfl rfl
  repeat' (first | refine W.seq fun K hK => ?_ | refine W.block ?_ | ((first | refine wR ?_ | refine wD ?_ | refine W.skip ?_ | refine W.exit ?_ | refine W.ret (Post.ret ?_) | refine aP ?_ | refine aF ?_ | refine aK ?_ | refine aC ?_); simp only [go_sem, reduceCtorEq]) | refine wT ?_ | refine wF ?_ | refine wC (fun h => ?_) (fun h => ?_) | refine iK ?_ | refine aI2 ?_ | (refine hK _ ?_; clear hK K) | clear hK K)
theorem find_c (l : List Spn) (id : Int) : PCall Tryz.prog 40 [spsT l, ft (.int .i64 id)] (findT l id) := by
  have c59 := indexFunc_c l 60 [.pt [.flat (.int .i64 id)]] (fun s => s.id == id) (fun s => find1_c id s)
  refine PCall.intro (nt := 17) (rs := [.cell 4 36, .tmp 5]) Tryz.func40 rfl ⟨by kernel_rfl, by kernel_rfl, by kernel_rfl⟩ (by simp) ?_
  rintro ⟨P, w0, ok0, may, np, pblk⟩ rfl rfl
  refine W.lenB 0 rfl tE36 fun hl0 hl1 => ?_
  cases hf : l.findIdx? fun s => s.id == id with
  | none =>
    have h1 : idxN (fun s : Spn => s.id == id) l = -1 := by simp [idxN, hf]
    have h2 : findT l id = .t [(true, zSpn), (false, [fl (.bool false)])] := by
      have : spId l id = none := by
        rw [spId, List.find?_eq_none]
        rw [List.findIdx?_eq_none_iff] at hf
        exact fun x hx => by simp [hf x hx]
      simp [findT, this]
    have h3 : decide ((-1 : Int) < 0) = true := by decide
    rw [h1] at c59
    repeat' (first | refine W.seq fun K hK => ?_ | refine W.block ?_ | ((first | refine wR ?_ | refine wD ?_ | refine W.skip ?_ | refine W.exit ?_ | refine W.ret (Post.ret ?_) | refine aP ?_ | refine aF ?_ | refine aK ?_ | refine aC ?_); simp only [go_sem, reduceCtorEq, h3, h2, zSpn]) | refine wT ?_ | refine wF ?_ | refine wC (fun h => ?_) (fun h => ?_) | refine iK ?_ | refine aI2 ?_ | (refine hK _ ?_; clear hK K) | clear hK K)
  | some i =>
    have h1 : idxN (fun s : Spn => s.id == id) l = (i : Int) := by simp [idxN, hf]
    rw [List.findIdx?_eq_some_iff_getElem] at hf
    obtain ⟨hi, hp, hno⟩ := hf
    have hx : l[i]? = some l[i] := List.getElem?_eq_getElem hi
    have h2 : findT l id = .t [(true, (spA l[i]).map .im), (false, [fl (.bool true)])] := by
      have : spId l id = some l[i] := by
        rw [spId, List.find?_eq_some_iff_getElem]
        exact ⟨hp, i, hi, rfl, fun j hj => by simpa using hno j hj⟩
      simp [findT, this]
    generalize l[i] = s at hx h2 hp
    have h3 : decide ((i : Int) < 0) = false := by simp
    rw [h1] at c59
    repeat' (first | refine W.seq fun K hK => ?_ | refine W.block ?_ | ((first | refine wR ?_ | refine wD ?_ | refine W.skip ?_ | refine W.exit ?_ | refine W.ret (Post.ret ?_) | refine aP ?_ | refine aF ?_ | refine aK ?_ | refine aC ?_); simp only [go_sem, reduceCtorEq, h3, h2, List.getElem?_map, hx, spA]) | refine wT ?_ | refine wF ?_ | refine wC (fun h => ?_) (fun h => ?_) | refine iK ?_ | refine aI2 ?_ | (refine hK _ ?_; clear hK K) | clear hK K)
theorem indexI_c (l : List Int) (n : Int) : PCall Tryz.prog 61 [intsT l, ft (.int .i64 n)] (ft (.int .i64 (match l.findIdx? (fun x => n == x) with | some i => (i : Nat) | none => -1))) := by
  refine PCall.intro (nt := 19) (rs := [.tmp 4]) Tryz.func61 rfl ⟨by kernel_rfl, by kernel_rfl, by kernel_rfl⟩ (by simp) ?_
  rintro ⟨P, w0, ok0, may, np, pblk⟩ rfl rfl
  refine W.lenB 0 rfl tE3 fun hl0 hl1 => ?_
  rw [List.length_map] at hl1
  repeat' (first | refine W.seq fun K hK => ?_ | refine W.block ?_ | ((first | refine wR ?_ | refine wD ?_ | refine W.skip ?_ | refine W.exit ?_ | refine W.ret (Post.ret ?_) | refine aP ?_ | refine aF ?_); simp only [go_sem, reduceCtorEq]) | refine wT ?_ | refine wF ?_ | refine wC (fun h => ?_) (fun h => ?_) | refine iK ?_ | refine aI2 ?_ | (refine hK _ ?_; clear hK K) | clear hK K)
  refine W.loopF (T := fun i : Nat => { t := [(0, intsT l), (1, ft (.int .i64 n)), (6, intsT l), (7, ft (.int .i64 l.length)), (8, ft (.int .i64 (i : Nat)))], h := [], nx := 0, ex := [], nt := 19 })
    (Inv := fun i => i ≤ l.length ∧ ∀ x ∈ l.take i, (n == x) = false) (μ := fun i => l.length - i) (x0 := 0) (Fits.fit [] [0, 1, 6, 7, 8] 0 rfl rfl ?_) ⟨Nat.zero_le _, by simp⟩ ?_
  · simp only [go_sem, List.length_map]
    exact Fits.rfl
  rintro i ⟨hi, hinv⟩ KL hKL
  by_cases hlt : i < l.length
  · obtain ⟨x, hx, hm, hd⟩ := drop_at hlt
    have e1 : decide ((i : Int) < l.length) = true := by simp; omega
    have hw := w64s i (by omega)
    cases hc : n == x
    · repeat' (first | refine W.seq fun K hK => ?_ | refine W.block ?_ | ((first | refine wR ?_ | refine wD ?_ | refine W.skip ?_ | refine W.exit ?_ | refine W.ret (Post.ret ?_) | refine aP ?_ | refine aF ?_); simp only [go_sem, reduceCtorEq, List.getElem?_map, hx, iA, e1, hw, hc]) | refine wT ?_ | refine wF ?_ | refine wC (fun h => ?_) (fun h => ?_) | refine iK ?_ | refine aI2 ?_ | (refine hK _ ?_; clear hK K) | clear hK K)
      refine hKL.to (i + 1) ⟨by omega, fun y hy => ?_⟩ (by omega) (Fits.fit [] [0, 1, 6, 7, 8] 0 rfl rfl ?_)
      · rw [List.take_add_one, hx] at hy
        rcases List.mem_append.1 hy with hy | hy
        · exact hinv y hy
        · simp at hy; subst hy; exact hc
      · simp only [go_sem]
        exact Fits.rfl
    · have hf : l.findIdx? (fun x => n == x) = some i := by
        rw [List.findIdx?_eq_some_iff_getElem]
        obtain ⟨h1, h2⟩ := List.getElem?_eq_some_iff.1 hx
        refine ⟨h1, by rw [h2]; exact hc, fun j hj => ?_⟩
        have := hinv l[j] (List.mem_of_getElem? (i := j) (by rw [List.getElem?_take, if_pos hj, List.getElem?_eq_getElem]))
        simp [this]
      clear hKL
      repeat' (first | refine W.seq fun K hK => ?_ | refine W.block ?_ | ((first | refine wR ?_ | refine wD ?_ | refine W.skip ?_ | refine W.exit ?_ | refine W.ret (Post.ret ?_) | refine aP ?_ | refine aF ?_); simp only [go_sem, reduceCtorEq, List.getElem?_map, hx, iA, e1, hw, hc, hf]) | refine wT ?_ | refine wF ?_ | refine wC (fun h => ?_) (fun h => ?_) | refine iK ?_ | refine aI2 ?_ | (refine hK _ ?_; clear hK K) | clear hK K)
  obtain rfl : i = l.length := by omega
  rw [List.take_length] at hinv
  have e1 : decide ((l.length : Int) < l.length) = false := by simp
  have hf : l.findIdx? (fun x => n == x) = none := by
    rw [List.findIdx?_eq_none_iff]
    exact hinv
  clear hKL
  repeat' (first | refine W.seq fun K hK => ?_ | refine W.block ?_ | ((first | refine wR ?_ | refine wD ?_ | refine W.skip ?_ | refine W.exit ?_ | refine W.ret (Post.ret ?_) | refine aP ?_ | refine aF ?_); simp only [go_sem, reduceCtorEq, e1, hf]) | refine wT ?_ | refine wF ?_ | refine wC (fun h => ?_) (fun h => ?_) | refine iK ?_ | refine aI2 ?_ | (refine hK _ ?_; clear hK K) | clear hK K)
theorem contains_c (l : List Int) (n : Int) : PCall Tryz.prog 41 [intsT l, ft (.int .i64 n)] (ft (.bool (l.contains n))) := by
  have c1 := indexI_c l n
  refine PCall.intro (nt := 9) (rs := [.tmp 4]) Tryz.func41 rfl ⟨by kernel_rfl, by kernel_rfl, by kernel_rfl⟩ (by simp) ?_
  rintro ⟨P, w0, ok0, may, np, pblk⟩ rfl rfl
  cases h : l.findIdx? (fun x => n == x) with
  | none =>
    rw [h] at c1
    rw [List.findIdx?_eq_none_iff] at h
    have h2 : l.contains n = false := by
      rw [Bool.eq_false_iff]
      intro hc
      have := h n (List.contains_iff_mem.1 hc)
      simp at this
    have h3 : decide ((-1 : Int) ≥ 0) = false := by decide
    repeat' (first | refine W.seq fun K hK => ?_ | refine W.block ?_ | ((first | refine wR ?_ | refine wD ?_ | refine W.skip ?_ | refine W.exit ?_ | refine W.ret (Post.ret ?_) | refine aP ?_ | refine aF ?_); simp only [go_sem, reduceCtorEq, h2, h3]) | refine wT ?_ | refine wF ?_ | refine wC (fun h => ?_) (fun h => ?_) | refine iK ?_ | refine aI2 ?_ | (refine hK _ ?_; clear hK K) | clear hK K)
  | some i =>
    rw [h] at c1
    rw [List.findIdx?_eq_some_iff_getElem] at h
    obtain ⟨hi, hp, _⟩ := h
    have h2 : l.contains n = true := by
      rw [List.contains_iff_mem]
      simp at hp
      rw [hp]
      exact List.getElem_mem _
    have h3 : decide ((i : Int) ≥ 0) = true := by simp
    repeat' (first | refine W.seq fun K hK => ?_ | refine W.block ?_ | ((first | refine wR ?_ | refine wD ?_ | refine W.skip ?_ | refine W.exit ?_ | refine W.ret (Post.ret ?_) | refine aP ?_ | refine aF ?_); simp only [go_sem, reduceCtorEq, h2, h3]) | refine wT ?_ | refine wF ?_ | refine wC (fun h => ?_) (fun h => ?_) | refine iK ?_ | refine aI2 ?_ | (refine hK _ ?_; clear hK K) | clear hK K)
end Go.Proofs.YtaaflhmfhnfjhaaGreat
namespace Go.Proofs.YtaaflhmfhnfjhaaGreat
open Go.RowKit Go.Exe
/-! ### the blocking children -/
def cmId (a b : Spn) : Int := cmpI a.id b.id
def srtId (l : List Spn) : List Spn := srtG cmId l
theorem cmId_lt {a b : Spn} : cmId a b < 0 ↔ a.id < b.id := by unfold cmId cmpI; split <;> (try split) <;> omega
theorem srtId_perm (l : List Spn) : (srtId l).Perm l := srtG_perm _ _
theorem srtId_sorted (l : List Spn) : (srtId l).Pairwise fun a b => a.id ≤ b.id := by
  refine (List.pairwise_mergeSort (le := fun a b => decide (cmId a b ≤ 0)) (fun a b c h1 h2 => ?_) (fun a b => ?_) l).imp fun {a b} h => ?_
  · simp only [decide_eq_true_eq] at *
    unfold cmId cmpI at *
    repeat' split at *
    all_goals omega
  · simp only [Bool.or_eq_true, decide_eq_true_eq]
    unfold cmId cmpI
    repeat' split
    all_goals omega
  · simp only [decide_eq_true_eq] at h
    unfold cmId cmpI at h
    repeat' split at h
    all_goals omega
theorem id_eq {l : List Spn} (hn : (idsOf l).Nodup) {a b : Spn} (ha : a ∈ l) (hb : b ∈ l) (h : a.id = b.id) : a = b := id_uni hn ha hb h
theorem srtId_uni {l zs : List Spn} (hn : (idsOf l).Nodup) (hp : zs.Perm l) (hs : zs.Pairwise fun a b => a.id ≤ b.id) : zs = srtId l :=
  List.Perm.eq_of_pairwise (fun a b ha hb h1 h2 => id_eq hn (hp.mem_iff.1 ha) ((srtId_perm l).mem_iff.1 hb) (by omega)) hs (srtId_sorted l) (hp.trans (srtId_perm l).symm)
theorem cmId_ord (l : List Spn) : OrdOn cmId l where
  irrefl := fun x _ h => by rw [cmId_lt] at h; omega
  trans := fun x _ y _ z _ h1 h2 => by rw [cmId_lt] at *; omega
  ntrans := fun x _ y _ z _ h1 h2 h3 => by rw [cmId_lt] at *; omega
attribute [local irreducible] W AX Run RunD AStep AOp AOpX AStB AStH AStG Fits PCall GCall PostG Post Stop
theorem blocking1_c (a b : Spn) : PCall Tryz.prog 67 [spT a, spT b] (ft (.int .i64 (cmId a b))) := by
  have c1 := cmpCompareI_c a.id b.id
  unfold cmId
  generalize cmpI a.id b.id = z at c1 ⊢
  simp only [spT, spA, List.map]
  refine PCall.intro (nt := 10) (rs := [.tmp 4]) Tryz.func67 rfl ⟨by kernel_rfl, by kernel_rfl, by kernel_rfl⟩ (by simp) ?_
  rintro ⟨P, w0, ok0, may, np, pblk⟩ rfl rfl
  repeat' (first | refine W.seq fun K hK => ?_ | refine W.block ?_ | ((first | refine wR ?_ | refine wD ?_ | refine W.skip ?_ | refine W.exit ?_ | refine W.ret (Post.ret ?_) | refine aP ?_ | refine aF ?_); simp only [go_sem, reduceCtorEq]) | refine wT ?_ | refine wF ?_ | refine wC (fun h => ?_) (fun h => ?_) | refine iK ?_ | refine aI2 ?_ | (refine hK _ ?_; clear hK K) | clear hK K)
theorem sortedId_c (c53 : SortC Tryz.prog 53 14) (ss : List Spn) (hn : (idsOf ss).Nodup) (hlen : ss.length * 168 ≤ 140737488355328) :
    GCall Tryz.prog 65 0 (St.g [.c (.im (.fn 88 [.pt [.sl 36 (ss.map spA)]])), .c (.clo 67 [])] [] 0) (St.r (.c (.ref 0)) [(0, .row 36 (imR ((srtId ss).map spA)))] 1) := by
  have hc := collect_c 88 [.pt [.sl 36 (ss.map spA)]] ss (values1_it ss) hlen
  refine GCall.introG (nt := 12) (rs := [.tmp 4]) Tryz.func65 rfl ⟨by kernel_rfl, by kernel_rfl, by kernel_rfl⟩ (by simp) ?_
  rintro ⟨P, w0, ok0, may, np, pblk⟩ rfl rfl
  simp only [go_sem]
  repeat' (first | refine W.seq fun K hK => ?_ | refine W.block ?_ | ((first | refine wR ?_ | refine wD ?_ | refine W.skip ?_ | refine W.exit ?_ | refine W.ret (Post.ret ?_) | refine aP ?_ | refine aF ?_); simp only [go_sem, reduceCtorEq]) | refine wT ?_ | refine wF ?_ | refine wC (fun h => ?_) (fun h => ?_) | refine iK ?_ | refine aI2 ?_ | (refine hK _ ?_; clear hK K) | clear hK K)
  refine AX.gcall [] rfl rfl (hc) (by simp only [go_sem, reduceCtorEq]) (by simp only [go_sem, reduceCtorEq]) rfl rfl (by simp only [go_sem, Obj.owns]) rfl (by simp only [go_sem, Obj.owns]) rfl rfl ?_
  simp only [go_sem, reduceCtorEq]
  repeat' (first | refine W.seq fun K hK => ?_ | refine W.block ?_ | ((first | refine wR ?_ | refine wD ?_ | refine W.skip ?_ | refine W.exit ?_ | refine W.ret (Post.ret ?_) | refine aP ?_ | refine aF ?_); simp only [go_sem, reduceCtorEq]) | refine wT ?_ | refine wF ?_ | refine wC (fun h => ?_) (fun h => ?_) | refine iK ?_ | refine aI2 ?_ | (refine hK _ ?_; clear hK K) | clear hK K)
  refine AX.sort (zs := srtId ss) (cm := cmId) spA rfl rfl rfl rfl rfl rfl tE36 (by decide) c53 (fun x _ y _ => blocking1_c x y) (cmId_ord _) (srtG_perm _ _) (fun zs' h1 h2 => srtId_uni hn h1 (h2.imp fun {a b} h => by rw [cmId_lt] at h; omega)) rfl ?_
  simp only [go_sem]
  repeat' (first | refine W.seq fun K hK => ?_ | refine W.block ?_ | ((first | refine wR ?_ | refine wD ?_ | refine W.skip ?_ | refine W.exit ?_ | refine W.ret (Post.ret ?_) | refine aP ?_ | refine aF ?_); simp only [go_sem, reduceCtorEq]) | refine wT ?_ | refine wF ?_ | refine wC (fun h => ?_) (fun h => ?_) | refine iK ?_ | refine aI2 ?_ | (refine hK _ ?_; clear hK K) | clear hK K)
  refine W.ret (PostG.ret (Fits.fit [(2, 0)] [4] 1 rfl rfl Fits.rfl) rfl rfl ?_)
  simp only [St.r, go_sem]
abbrev KM := List (Int × List Spn)
def putK (m : KM) (s : Spn) : KM := match m with
  | [] => [(s.pa, [s])]
  | y :: r => if y.1 = s.pa then (y.1, y.2 ++ [s]) :: r else y :: putK r s
def getK (m : KM) (k : Int) : Option (List Spn) := match m with
  | [] => none
  | y :: r => if y.1 = k then some y.2 else getK r k
def blk (s : Spn) : Bool := s.pa != 0 && s.kd != 5
def kmN (l : List Spn) (n : Nat) : KM := ((l.take n).filter blk).foldl putK []
def kE (m : KM) : List (Value × Bool × List Cell) := m.map fun y => (.int .i64 y.1, false, [.orow 36 (y.2.map spA)])
def kEA (m : KM) : List (Value × Bool × List AV) := m.map fun y => (.int .i64 y.1, false, [.sl 36 (y.2.map spA)])
theorem kE_close (m : KM) : closeE (kE m) = some (kEA m) := closeE_map _ _ (fun x => ⟨rfl, rfl, by simp [closeL, closeC, unim_im]⟩) m
theorem kmN_step {l : List Spn} {i : Nat} {s : Spn} (h : l[i]? = some s) : kmN l (i + 1) = if blk s then putK (kmN l i) s else kmN l i := by
  unfold kmN
  rw [List.take_add_one, h, List.filter_append]
  cases hb : blk s <;> simp [hb, List.foldl_append]
/-- The children of a span, out of the map. -/
theorem getK_put (m : KM) (s : Spn) (k : Int) : getK (putK m s) k = if s.pa = k then some (((getK m k).getD []) ++ [s]) else getK m k := by
  induction m with
  | nil => simp [putK, getK]
  | cons y r ih =>
    simp only [putK, getK]
    by_cases h : y.1 = s.pa
    · rw [if_pos h]
      simp only [getK]
      by_cases h2 : y.1 = k
      · simp [h2, ← h]
      · have : ¬ s.pa = k := by rw [← h]; exact h2
        simp [h2, this]
    · rw [if_neg h]
      simp only [getK, ih]
      by_cases h2 : y.1 = k
      · have : ¬ s.pa = k := by rw [← h2]; exact fun e => h e.symm
        simp [h2, this]
      · simp [h2]
theorem getK_km (l : List Spn) (k : Int) : (getK (kmN l l.length) k).getD [] = (l.filter fun s => blk s && s.pa == k) := by
  unfold kmN
  rw [List.take_length]
  have key : ∀ (l : List Spn) (m : KM), (getK (l.foldl putK m) k).getD [] = (getK m k).getD [] ++ l.filter fun s => s.pa == k := by
    intro l
    induction l with
    | nil => simp
    | cons s l ih =>
      intro m
      rw [List.foldl_cons, ih, getK_put]
      by_cases h : s.pa = k
      · simp [h]
      · simp [h]
  rw [key]
  simp [getK, List.filter_filter]
  exact List.filter_congr fun x _ => by rw [Bool.and_comm]
theorem rnEs_kE (r : Ren) (m : KM) : rnEs r (kE m) = kE m := rnEs_map r _ (fun _ => rfl) _
theorem putK_at {s : Spn} : ∀ {m : KM} {j : Nat} {y : Int × List Spn}, (m.map (·.1)).Nodup → m[j]? = some y → y.1 = s.pa → putK m s = m.set j (y.1, y.2 ++ [s])
  | x :: r, 0, y, _, h, e => by simp at h; subst h; simp [putK, e]
  | x :: r, j + 1, y, hn, h, e => by
    simp only [List.map_cons, List.nodup_cons] at hn
    have hne : x.1 ≠ s.pa := fun e' => hn.1 (by rw [e', ← e]; exact List.mem_map_of_mem (List.mem_of_getElem? (by simpa using h)))
    simp [putK, hne, putK_at hn.2 (by simpa using h) e]
theorem putK_none {s : Spn} : ∀ {m : KM}, (∀ y ∈ m, y.1 ≠ s.pa) → putK m s = m ++ [(s.pa, [s])]
  | [], _ => rfl
  | x :: r, h => by simp [putK, h x (by simp), putK_none (m := r) fun y hy => h y (by simp [hy])]
theorem putK_keys {m : KM} (s : Spn) (hn : (m.map (·.1)).Nodup) : ((putK m s).map (·.1)).Nodup := by
  by_cases h : ∃ y ∈ m, y.1 = s.pa
  · obtain ⟨y, hy, e⟩ := h
    obtain ⟨j, hj⟩ := List.getElem?_of_mem hy
    rw [putK_at hn hj e, List.map_set]
    have hl := (List.getElem?_eq_some_iff.1 hj).1
    have : (m.map (·.1)).set j y.1 = m.map (·.1) := by
      have h2 : y.1 = (m.map (·.1))[j]'(by simpa using hl) := by
        rw [← (List.getElem?_eq_some_iff.1 hj).2]; simp
      rw [h2, List.set_getElem_self]
    simp only [this]; exact hn
  · rw [putK_none fun y hy e => h ⟨y, hy, e⟩, List.map_append]
    refine List.nodup_append.2 ⟨hn, by simp, fun a ha b hb => ?_⟩
    obtain ⟨c, hc, rfl⟩ := List.mem_map.1 ha
    simp at hb; subst hb
    exact fun e => h ⟨c, hc, e⟩
theorem kmN_keys (l : List Spn) (n : Nat) : ((kmN l n).map (·.1)).Nodup := by
  unfold kmN
  have key : ∀ (l : List Spn) (m : KM), (m.map (·.1)).Nodup → ((l.foldl putK m).map (·.1)).Nodup := by
    intro l
    induction l with
    | nil => exact fun m h => h
    | cons s l ih => exact fun m h => ih _ (putK_keys s h)
  exact key _ [] List.Pairwise.nil
/-- How many spans the map holds under a key. -/
theorem kmN_len (l : List Spn) (n : Nat) : ∀ y ∈ kmN l n, y.2.length ≤ n := by
  have key : ∀ (l : List Spn) (m : KM) (b : Nat), (∀ y ∈ m, y.2.length ≤ b) → ∀ y ∈ l.foldl putK m, y.2.length ≤ b + l.length := by
    intro l
    induction l with
    | nil => exact fun m b h => h
    | cons s l ih =>
      intro m b h y hy
      have h2 : ∀ z ∈ putK m s, z.2.length ≤ b + 1 := by
        intro z hz
        clear hy ih
        induction m with
        | nil => simp [putK] at hz; subst hz; simp
        | cons x r ihr =>
          unfold putK at hz
          split at hz
          · rcases List.mem_cons.1 hz with rfl | hz
            · have := h x (by simp); simp; omega
            · have := h z (by simp [hz]); omega
          · rcases List.mem_cons.1 hz with rfl | hz
            · have := h z (by simp); omega
            · exact ihr (fun y hy => h y (by simp [hy])) hz
      have := ih _ _ h2 y hy
      simp only [List.length_cons]; omega
  intro y hy
  have := key _ [] 0 (by simp) y hy
  have h2 := List.length_filter_le blk (l.take n)
  rw [List.length_take] at h2
  omega
theorem mget_sE {key : Value} {es : List (Value × Bool × List Cell)} {i : Nat} {cs : List Cell} {c : Cell} (hn : (es.map (·.1)).Nodup) (h : es[i]? = some (key, false, cs)) : mget key (Go.Exe.setE es i c) = some (false, [c]) := by
  rw [Go.Exe.setE_set c h]
  have hl := (List.getElem?_eq_some_iff.1 h).1
  refine mget_at (j := i) (e := (key, false, [c])) ?_ ?_ rfl
  · have := Go.Exe.setE_keys es i c
    rw [Go.Exe.setE_set c h] at this
    rw [this]; exact hn
  · rw [List.getElem?_set_self hl]
theorem mput_sE {key : Value} {es : List (Value × Bool × List Cell)} {i : Nat} {cs : List Cell} {c d : Cell} (hn : (es.map (·.1)).Nodup) (h : es[i]? = some (key, false, cs)) : mput key (false, [d]) (Go.Exe.setE es i c) = Go.Exe.setE es i d := by
  have hk := Go.Exe.setE_keys es i c
  have hl := (List.getElem?_eq_some_iff.1 h).1
  rw [mput_at (j := i) (e := (key, false, [c])) (by rw [hk]; exact hn) (by rw [Go.Exe.setE_set c h, List.getElem?_set_self hl]) rfl, Go.Exe.setE_set c h, Go.Exe.setE_set d h, List.set_set]
theorem sE_sE : ∀ (es : List (Value × Bool × List Cell)) (i : Nat) (c d : Cell), Go.Exe.setE (Go.Exe.setE es i c) i d = Go.Exe.setE es i d
  | [], _, _, _ => rfl
  | e :: r, 0, c, d => rfl
  | e :: r, i + 1, c, d => by simp [Go.Exe.setE, sE_sE r i c d]
theorem kE_keys (m : KM) : (kE m).map (·.1) = (m.map (·.1)).map fun k => Value.int .i64 k := by simp [kE, Function.comp_def]
theorem kE_nodup {m : KM} (h : (m.map (·.1)).Nodup) : ((kE m).map (·.1)).Nodup := by
  rw [kE_keys]
  unfold List.Nodup at h ⊢
  rw [List.pairwise_map]
  exact h.imp fun {a b} hab e => hab (by injection e)
theorem kE_set {m : KM} {j : Nat} {y : Int × List Spn} (h : m[j]? = some y) (z : List Spn) : Go.Exe.setE (kE m) j (.orow 36 (z.map spA)) = kE (m.set j (y.1, z)) := by
  rw [Go.Exe.setE_set (key := .int .i64 y.1) (b := false) (cs := [.orow 36 (y.2.map spA)]) _ (by simp [kE, h])]
  simp [kE, List.map_set]
theorem snocS (l : List Spn) (s : Spn) : imR ((l ++ [s]).map spA) = imR (l.map spA) ++ [(spA s).map .im] := by simp [imR, imL]
end Go.Proofs.YtaaflhmfhnfjhaaGreat
namespace Go.Proofs.YtaaflhmfhnfjhaaGreat
open Go.RowKit Go.Exe
theorem kE_get {m : KM} {j : Nat} {y : Int × List Spn} (h : m[j]? = some y) : (kE m)[j]? = some (.int .i64 y.1, false, [.orow 36 (y.2.map spA)]) := by simp [kE, h]
theorem kE_no {m : KM} {k : Int} (h : ∀ y ∈ m, y.1 ≠ k) : ∀ e ∈ kE m, e.1 ≠ Value.int .i64 k := fun e he => by
  obtain ⟨y, hy, rfl⟩ := List.mem_map.1 he
  exact fun e => h y hy (by injection e)
theorem kE_snoc (m : KM) (k : Int) (n : Nat) (z : List Spn) : Go.Exe.setE (kE m ++ [(Value.int .i64 k, false, [Cell.ref n])]) m.length (.orow 36 (z.map spA)) = kE (m ++ [(k, z)]) := by
  induction m with
  | nil => rfl
  | cons y r ih => simp only [kE, List.map_cons, List.cons_append, List.length_cons, Go.Exe.setE] at ih ⊢; rw [ih]
def kidM (l : List Spn) : KM := kmN (srtId l) (srtId l).length
abbrev kidMT (l : List Spn) : TV := .c (.im (.mp 3 (kEA (kidM l))))
attribute [local irreducible] W AX Run RunD AStep AOp AOpX AStB AStH AStG Fits PCall GCall PostG Post Stop
theorem blocking_c (c53 : SortC Tryz.prog 53 14) (ss : List Spn) (hnd : (idsOf ss).Nodup) (hI : ∀ s ∈ ss, I64 s.pa) (hlen : ss.length * 168 ≤ 140737488355328) : PCall Tryz.prog 43 [spsT ss] (kidMT ss) := by
  have c66 := values_c ss
  have c52 := blocks_c
  obtain ⟨L, hL⟩ : ∃ l, l = srtId ss := ⟨_, rfl⟩
  have hLI : ∀ s ∈ L, I64 s.pa := fun s hs => hI s ((srtId_perm ss).mem_iff.1 (hL ▸ hs))
  have hLl : L.length * 168 ≤ 140737488355328 := by rw [hL, (srtId_perm ss).length_eq]; exact hlen
  have c65 := sortedId_c c53 ss hnd hlen
  unfold kidMT kidM
  rw [← hL] at c65 ⊢
  clear hL c53 hI hlen hnd
  refine PCall.intro (nt := 34) (rs := [.tmp 2]) Tryz.func43 rfl ⟨by kernel_rfl, by kernel_rfl, by kernel_rfl⟩ (by simp) ?_
  rintro ⟨P, w0, ok0, may, np, pblk⟩ rfl rfl
  repeat' (first | refine W.seq fun K hK => ?_ | refine W.block ?_ | ((first | refine wR ?_ | refine wD ?_ | refine W.skip ?_ | refine W.exit ?_ | refine W.ret (Post.ret ?_) | refine aP ?_ | refine aF ?_ | refine aL ?_ | refine aU ?_ | refine aM ?_ | refine aN ?_ | refine aR ?_); simp only [go_sem, reduceCtorEq]) | refine wT ?_ | refine wF ?_ | refine wC (fun h => ?_) (fun h => ?_) | refine iK ?_ | refine aI2 ?_ | (refine hK _ ?_; clear hK K) | clear hK K)
  refine AX.gcall [] rfl rfl (c65) (by simp only [go_sem, reduceCtorEq, List.length_map, imR_len]) (by simp only [go_sem, reduceCtorEq, List.length_map, imR_len]) rfl rfl (by simp only [go_sem, Obj.owns]) rfl (by simp only [go_sem, Obj.owns]) rfl rfl ?_
  simp only [go_sem, reduceCtorEq, List.length_map, imR_len]
  repeat' (first | refine W.seq fun K hK => ?_ | refine W.block ?_ | ((first | refine wR ?_ | refine wD ?_ | refine W.skip ?_ | refine W.exit ?_ | refine W.ret (Post.ret ?_) | refine aP ?_ | refine aF ?_ | refine aL ?_ | refine aU (hnn := by simp only [go_sem, reduceCtorEq, List.length_map, imR_len]) ?_ | refine aM ?_ | refine aN ?_ | refine aR ?_); simp only [go_sem, reduceCtorEq, List.length_map, imR_len]) | refine wT ?_ | refine wF ?_ | refine wC (fun h => ?_) (fun h => ?_) | refine iK ?_ | refine aI2 ?_ | (refine hK _ ?_; clear hK K) | clear hK K)
  clear c65 c66
  refine W.loopF (T := fun i : Nat => { t := [(3, .c (.mp 0)), (9, .c (.ref 1)), (10, ft (.int .i64 L.length)), (11, ft (.int .i64 (i : Nat)))], h := [(0, .map 3 (kE (kmN L i))), (1, .row 36 (imR (L.map spA)))], nx := 2, ex := [], nt := 34 })
    (Inv := fun i => i ≤ L.length) (μ := fun i => L.length - i) (x0 := 0) ?_ (Nat.zero_le _) ?_
  · refine Fits.fit [(1, 0), (5, 1)] [3, 9, 10, 11] 2 rfl rfl ?_
    simp only [go_sem, kmN, List.take_zero, List.filter_nil, List.foldl_nil, kE, List.map_nil]
    exact Fits.rfl
  rintro i hi KL hKL
  by_cases hlt : i < L.length
  · obtain ⟨s, hx, hm, hd⟩ := drop_at hlt
    have e1 : decide ((i : Int) < L.length) = true := by simp; omega
    have e2 : decide (i < L.length) = true := by simp; omega
    have hw := w64s i (by omega)
    have hko := koI (hLI s hm)
    have hst := kmN_step hx
    have hks := kmN_keys L i
    have hkl := kmN_len L i
    have cb := c52 s
    clear c52
    by_cases h0 : s.pa = 0
    · have h1 : (s.pa != 0) = false := by simp [h0]
      have hb : blk s = false := by simp [blk, h0]
      rw [hb, if_neg (by simp)] at hst
      have h2 : (s.pa == 0) = true := by simp [h0]
      simp only [spT, spA, List.map] at cb
      repeat' (first | refine W.seq fun K hK => ?_ | refine W.block ?_ | ((first | refine wR ?_ | refine wD ?_ | refine W.skip ?_ | refine W.exit ?_ | refine W.ret (Post.ret ?_) | refine aP ?_ | refine aF ?_ | refine aL ?_ | refine aU (hnn := by simp only [go_sem, reduceCtorEq, List.getElem?_map, hx, spA, e1, e2, hw, h1, h2, imR_len, imR_get, imL, List.length_map]) ?_ | refine aM ?_ | refine aN ?_ | refine aR ?_); simp only [go_sem, reduceCtorEq, List.getElem?_map, hx, spA, e1, e2, hw, h1, h2, imR_len, imR_get, imL, List.length_map]) | refine wT ?_ | refine wF ?_ | refine wC (fun h => ?_) (fun h => ?_) | refine iK ?_ | refine aI2 ?_ | (refine hK _ ?_; clear hK K) | clear hK K)
      refine hKL.to (i + 1) (by omega) (by omega) (Fits.fit [(0, 0), (1, 1)] [3, 9, 10, 11] 2 rfl rfl ?_)
      simp only [go_sem, rnEs_kE, hst]
      exact Fits.rfl
    · have h1 : (s.pa != 0) = true := by simp [h0]
      have h2 : (s.pa == 0) = false := by simp [h0]
      by_cases h3 : s.kd = 5
      · have hb : blk s = false := by simp [blk, h3]
        have h4 : (s.kd != 5) = false := by simp [h3]
        rw [hb, if_neg (by simp)] at hst
        rw [h4] at cb
        simp only [spT, spA, List.map] at cb
        repeat' (first | refine W.seq fun K hK => ?_ | refine W.block ?_ | ((first | refine wR ?_ | refine wD ?_ | refine W.skip ?_ | refine W.exit ?_ | refine W.ret (Post.ret ?_) | refine aP ?_ | refine aF ?_ | refine aL ?_ | refine aU (hnn := by simp only [go_sem, reduceCtorEq, List.getElem?_map, hx, spA, e1, e2, hw, h1, h2, imR_len, imR_get, imL, List.length_map]) ?_ | refine aM ?_ | refine aN ?_ | refine aR ?_); simp only [go_sem, reduceCtorEq, List.getElem?_map, hx, spA, e1, e2, hw, h1, h2, imR_len, imR_get, imL, List.length_map]) | refine wT ?_ | refine wF ?_ | refine wC (fun h => ?_) (fun h => ?_) | refine iK ?_ | refine aI2 ?_ | (refine hK _ ?_; clear hK K) | clear hK K)
        refine hKL.to (i + 1) (by omega) (by omega) (Fits.fit [(0, 0), (1, 1)] [3, 9, 10, 11] 2 rfl rfl ?_)
        simp only [go_sem, rnEs_kE, hst]
        exact Fits.rfl
      · have hb : blk s = true := by simp [blk, h3, h0]
        have h4 : (s.kd != 5) = true := by simp [h3]
        rw [hb, if_pos rfl] at hst
        rw [h4] at cb
        simp only [spT, spA, List.map] at cb
        obtain ⟨m1, hm1⟩ : ∃ m, m = kmN L (i + 1) := ⟨_, rfl⟩
        rw [← hm1] at hst
        generalize kmN L i = m at *
        repeat' (first | refine W.stop (id := 6) ?_ | refine W.seq fun K hK => ?_ | refine W.block ?_ | ((first | refine wR ?_ | refine wD ?_ | refine W.skip ?_ | refine W.exit ?_ | refine W.ret (Post.ret ?_) | refine aP ?_ | refine aF ?_ | refine aL ?_ | refine aU (hnn := by simp only [go_sem, reduceCtorEq, List.getElem?_map, hx, spA, e1, e2, hw, h1, h2, imR_len, imR_get, imL, List.length_map]) ?_ | refine aM ?_ | refine aN ?_ | refine aR ?_); simp only [go_sem, reduceCtorEq, List.getElem?_map, hx, spA, e1, e2, hw, h1, h2, imR_len, imR_get, imL, List.length_map]) | refine wT ?_ | refine wF ?_ | refine wC (fun h => ?_) (fun h => ?_) | refine iK ?_ | refine aI2 ?_ | (refine hK _ ?_; clear hK K) | clear hK K)
        refine Stop.out ?_
        refine W.fits (s' := { t := [(3, .c (.mp 0)), (5, .c (.ptr 2 0)), (9, .c (.ref 1)), (10, ft (.int .i64 L.length)), (11, ft (.int .i64 (i : Nat)))], h := [(0, .map 3 (kE m)), (1, .row 36 (imR (L.map spA))), (2, .box 36 ((spA s).map .im))], nx := 3, ex := [], nt := 34 }) ?_ ?_
        · refine Fits.fit [(0, 0), (1, 1), (5, 2)] [3, 5, 9, 10, 11] 3 rfl rfl ?_
          simp only [go_sem, rnEs_kE]
          exact Fits.rfl
        by_cases hex : ∃ y ∈ m, y.1 = s.pa
        · obtain ⟨y, hym, hye⟩ := hex
          obtain ⟨j, hj⟩ := List.getElem?_of_mem hym
          have hat := putK_at hks hj hye
          have hei := kE_get hj
          rw [hye] at hei
          have hyl := hkl y hym
          have hget := fun c => mget_sE (c := c) (kE_nodup hks) hei
          have hput := fun c d => mput_sE (c := c) (d := d) (kE_nodup hks) hei
          have hfin := kE_set hj (y.2 ++ [s])
          rw [hat] at hst
          simp only [spA, List.map]
          refine W.fits (Fits.unf 0 j 0 200 (c := .orow 36 (y.2.map spA)) rfl rfl (by simp only [go_sem, hei]) rfl rfl Fits.rfl) ?_
          simp only [go_sem]
          repeat' (first | refine W.seq fun K hK => ?_ | refine W.block ?_ | ((first | refine wR ?_ | refine wD ?_ | refine W.skip ?_ | refine W.exit ?_ | refine W.ret (Post.ret ?_) | refine aP ?_ | refine aF ?_ | refine aL ?_ | refine aU (hnn := by simp only [go_sem, reduceCtorEq, hget, hput, hw, imR_len, imL, List.length_map, spA]) ?_ | refine aM ?_ | refine aN ?_ | refine aR ?_); simp only [go_sem, reduceCtorEq, hget, hput, hw, imR_len, imL, List.length_map, spA]) | refine wT ?_ | refine wF ?_ | refine wC (fun h => ?_) (fun h => ?_) | refine iK ?_ | refine aI2 ?_ | (refine hK _ ?_; clear hK K) | clear hK K)
          refine hKL.to (i + 1) (by omega) (by omega) ?_
          have hrow : imR (List.map spA y.2) ++ [(spA s).map .im] = imR ((y.2 ++ [s]).map spA) := (snocS y.2 s).symm
          simp only [spA, List.map] at hrow
          simp only [hrow]
          refine Fits.fold 0 j 0 210 (.orow 36 ((y.2 ++ [s]).map spA)) rfl rfl rfl (by simp only [go_sem, Go.Exe.setE_set _ hei, List.getElem?_set_self (List.getElem?_eq_some_iff.1 hei).1]) (by decide) ?_
          refine Fits.fit [(0, 0), (1, 1)] [3, 9, 10, 11] 2 rfl rfl ?_
          simp only [go_sem, sE_sE, hfin, ← hst, rnEs_kE, hm1]
          exact Fits.rfl
        · have hno : ∀ y ∈ m, y.1 ≠ s.pa := fun y hy e => hex ⟨y, hy, e⟩
          rw [putK_none hno] at hst
          have hget : mget (Value.int .i64 s.pa) (kE m) = none := mget_none (kE_no hno)
          have hput : ∀ y, mput (Value.int .i64 s.pa) y (kE m) = kE m ++ [(Value.int .i64 s.pa, y)] := fun y => mput_none (kE_no hno)
          have hfin := kE_snoc m s.pa 12 [s]
          simp only [List.map] at hfin
          repeat' (first | refine W.seq fun K hK => ?_ | refine W.block ?_ | ((first | refine wR ?_ | refine wD ?_ | refine W.skip ?_ | refine W.exit ?_ | refine W.ret (Post.ret ?_) | refine aP ?_ | refine aF ?_ | refine aL ?_ | refine aU (hnn := by simp only [go_sem, reduceCtorEq, hget, hput, hw, imR_len, imL, List.length_map, spA]) ?_ | refine aM ?_ | refine aN ?_ | refine aR ?_); simp only [go_sem, reduceCtorEq, hget, hput, hw, imR_len, imL, List.length_map, spA]) | refine wT ?_ | refine wF ?_ | refine wC (fun h => ?_) (fun h => ?_) | refine iK ?_ | refine aI2 ?_ | (refine hK _ ?_; clear hK K) | clear hK K)
          refine hKL.to (i + 1) (by omega) (by omega) ?_
          refine Fits.fold 0 m.length 0 12 (.orow 36 ([s].map spA)) rfl rfl rfl (by simp [Obj.slot, kE, refCell]) (by decide) ?_
          simp only [go_sem, hfin]
          refine Fits.fit [(0, 0), (1, 1)] [3, 9, 10, 11] 2 rfl rfl ?_
          simp only [go_sem, ← hst, rnEs_kE, hm1]
          exact Fits.rfl
  · obtain rfl : i = L.length := by omega
    have e1 : decide ((L.length : Int) < L.length) = false := by simp
    clear hKL
    repeat' (first | refine W.stop (id := 8) ?_ | refine W.seq fun K hK => ?_ | refine W.block ?_ | ((first | refine wR ?_ | refine wD ?_ | refine W.skip ?_ | refine W.exit ?_ | refine W.ret (Post.ret ?_) | refine aP ?_ | refine aF ?_ | refine aL ?_ | refine aU (hnn := by simp only [go_sem, reduceCtorEq, e1]) ?_ | refine aM ?_ | refine aN ?_ | refine aR ?_); simp only [go_sem, reduceCtorEq, e1]) | refine wT ?_ | refine wF ?_ | refine wC (fun h => ?_) (fun h => ?_) | refine iK ?_ | refine aI2 ?_ | (refine hK _ ?_; clear hK K) | clear hK K)
    refine Stop.out ?_
    refine W.fits (Fits.freezeM 0 rfl (kE_close _) Fits.rfl) ?_
    simp only [go_sem]
    repeat' (first | refine W.seq fun K hK => ?_ | refine W.block ?_ | ((first | refine wR ?_ | refine wD ?_ | refine W.skip ?_ | refine W.exit ?_ | refine W.ret (Post.ret ?_) | refine aP ?_ | refine aF ?_ | refine aL ?_ | refine aU ?_ | refine aM ?_ | refine aN ?_ | refine aR ?_); simp only [go_sem, reduceCtorEq]) | refine wT ?_ | refine wF ?_ | refine wC (fun h => ?_) (fun h => ?_) | refine iK ?_ | refine aI2 ?_ | (refine hK _ ?_; clear hK K) | clear hK K)
end Go.Proofs.YtaaflhmfhnfjhaaGreat
namespace Go.Proofs.YtaaflhmfhnfjhaaGreat
open Go.RowKit Go.Exe
@[go_sem] theorem tI45 : TI Tryz.prog 45 = some (false, 1) := by kernel_rfl
theorem fields52 : (Tryz.prog.fieldsOf 52).toList = [{ name := "Span", type := 50, offset := 0, embedded := false, tag := "", pkgPath := "", byteOffset := 0 }, { name := "End", type := 4, offset := 2, embedded := false, tag := "", pkgPath := "", byteOffset := 16 }] := by kernel_rfl
theorem st52 : Tryz.prog.underlying 52 = some (.struct (Tryz.prog.fieldsOf 52)) := by kernel_rfl
theorem si52 : Tryz.prog.stoodInHeld 52 = false := by kernel_rfl
theorem eqG52 : Tryz.prog.eqGuardType Tryz.prog.depth 52 = false := by kernel_rfl
theorem fields66 : (Tryz.prog.fieldsOf 66).toList = [{ name := "Span", type := 50, offset := 0, embedded := false, tag := "", pkgPath := "", byteOffset := 0 }, { name := "From", type := 52, offset := 2, embedded := false, tag := "", pkgPath := "", byteOffset := 16 }, { name := "To", type := 52, offset := 5, embedded := false, tag := "", pkgPath := "", byteOffset := 40 }] := by kernel_rfl
theorem st66 : Tryz.prog.underlying 66 = some (.struct (Tryz.prog.fieldsOf 66)) := by kernel_rfl
theorem si66 : Tryz.prog.stoodInHeld 66 = false := by kernel_rfl
theorem eqG66 : Tryz.prog.eqGuardType Tryz.prog.depth 66 = false := by kernel_rfl
theorem agg4 (w : World) : (isAgg 4).run Tryz.prog w = .ok false w := by kernel_rfl
theorem agg50 (w : World) : (isAgg 50).run Tryz.prog w = .ok true w := by kernel_rfl
theorem agg52 (w : World) : (isAgg 52).run Tryz.prog w = .ok true w := by kernel_rfl
theorem sz50 (w : World) : (sizeOf 50).run Tryz.prog w = .ok 2 w := by kernel_rfl
theorem sz52 (w : World) : (sizeOf 52).run Tryz.prog w = .ok 3 w := by kernel_rfl
theorem eqRefN (n : Nat) (a b c d : Int) (w : World) : (Op.equalIn (n + 2) 50 (.agg #[.int .i64 a, .int .i64 b]) (.agg #[.int .i64 c, .int .i64 d])).run Tryz.prog w = .ok ((a == c) && (b == d)) w := by
  rw [run_equalIn_struct w (n + 1) 50 _ _ st56 si56, fields56]
  simp [Op.eqFields, Sem.run_bind, run_equalIn_int _ _ _ _ _ _ _ tU3, part, agg3]
  by_cases h1 : a = c <;> by_cases h2 : b = d <;> simp [h1, h2]
theorem eqEvN (n : Nat) (a b c d : Int) (e f : Bool) (w : World) : (Op.equalIn (n + 3) 52 (.agg #[.int .i64 a, .int .i64 b, .bool e]) (.agg #[.int .i64 c, .int .i64 d, .bool f])).run Tryz.prog w = .ok ((a == c) && (b == d) && (e == f)) w := by
  have e1 : (#[Value.int .i64 a, .int .i64 b, .bool e] : Array Value).extract 0 (0 + 2) = #[.int .i64 a, .int .i64 b] := rfl
  have e2 : (#[Value.int .i64 c, .int .i64 d, .bool f] : Array Value).extract 0 (0 + 2) = #[.int .i64 c, .int .i64 d] := rfl
  rw [run_equalIn_struct w (n + 2) 52 _ _ st52 si52, fields52]
  simp only [Op.eqFields, ne_eq, String.reduceEq, not_false_eq_true, if_true, part, Sem.run_bind, agg50, agg4, sz50, Result.andThen_ok, Sem.run_ite, Sem.run_pure, e1, e2, eqRefN, Bool.false_eq_true, if_false, reduceIte]
  cases h : ((a == c) && (b == d))
  · simp
  · simp [run_equalIn_bool' _ _ _ _ _ tU4]
    cases e <;> cases f <;> rfl
theorem eqEv (a b c d : Int) (e f : Bool) (w : World) : (Op.equal 52 (.agg #[.int .i64 a, .int .i64 b, .bool e]) (.agg #[.int .i64 c, .int .i64 d, .bool f])).run Tryz.prog w = .ok ((a == c) && (b == d) && (e == f)) w := by
  unfold Op.equal Op.maxDepth
  exact eqEvN 9997 a b c d e f w
theorem evEq (x y : Ev) : ((x.tr == y.tr) && (x.id == y.id) && (x.en == y.en)) = decide (x = y) := by
  obtain ⟨a, b, e⟩ := x
  obtain ⟨a2, b2, e2⟩ := y
  by_cases h1 : a = a2 <;> by_cases h2 : b = b2 <;> by_cases h3 : e = e2 <;> simp [h1, h2, h3]
/-- Two segments compared. -/
theorem eqSg (x y : Sg) (w : World) : (Op.equal 66 (.agg #[.int .i64 x.sp.1, .int .i64 x.sp.2, .int .i64 x.fr.tr, .int .i64 x.fr.id, .bool x.fr.en, .int .i64 x.to.tr, .int .i64 x.to.id, .bool x.to.en]) (.agg #[.int .i64 y.sp.1, .int .i64 y.sp.2, .int .i64 y.fr.tr, .int .i64 y.fr.id, .bool y.fr.en, .int .i64 y.to.tr, .int .i64 y.to.id, .bool y.to.en])).run Tryz.prog w = .ok (decide (x = y)) w := by
  obtain ⟨⟨a, b⟩, ⟨c, d, e⟩, ⟨f, g, h⟩⟩ := x
  obtain ⟨⟨a', b'⟩, ⟨c', d', e'⟩, ⟨f', g', h'⟩⟩ := y
  unfold Op.equal Op.maxDepth
  have x1 : ∀ a b c d e f g h, (#[Value.int .i64 a, .int .i64 b, .int .i64 c, .int .i64 d, .bool e, .int .i64 f, .int .i64 g, .bool h] : Array Value).extract 0 (0 + 2) = #[.int .i64 a, .int .i64 b] := fun _ _ _ _ _ _ _ _ => rfl
  have x2 : ∀ a b c d e f g h, (#[Value.int .i64 a, .int .i64 b, .int .i64 c, .int .i64 d, .bool e, .int .i64 f, .int .i64 g, .bool h] : Array Value).extract 2 (2 + 3) = #[.int .i64 c, .int .i64 d, .bool e] := fun _ _ _ _ _ _ _ _ => rfl
  have x3 : ∀ a b c d e f g h, (#[Value.int .i64 a, .int .i64 b, .int .i64 c, .int .i64 d, .bool e, .int .i64 f, .int .i64 g, .bool h] : Array Value).extract 5 (5 + 3) = #[.int .i64 f, .int .i64 g, .bool h] := fun _ _ _ _ _ _ _ _ => rfl
  have q1 := fun a b c d w => eqRefN 9997 a b c d w
  have q2 := fun a b c d e f w => eqEvN 9996 a b c d e f w
  rw [run_equalIn_struct w 9999 66 _ _ st66 si66, fields66]
  simp only [Op.eqFields, ne_eq, String.reduceEq, not_false_eq_true, if_true, part, Sem.run_bind, agg50, agg52, sz50, sz52, Result.andThen_ok, Sem.run_ite, Sem.run_pure, x1, x2, x3, q1, q2, Bool.false_eq_true, if_false, reduceIte]
  by_cases h1 : a = a' <;> by_cases h2 : b = b' <;> by_cases h3 : c = c' <;> by_cases h4 : d = d' <;> by_cases h5 : e = e' <;> by_cases h6 : f = f' <;> by_cases h7 : g = g' <;> by_cases h8 : h = h' <;> simp [h1, h2, h3, h4, h5, h6, h7, h8]
end Go.Proofs.YtaaflhmfhnfjhaaGreat
namespace Go.Proofs.YtaaflhmfhnfjhaaGreat
open Go.RowKit Go.Exe
/-! ### the walker -/
def askB (bf : Ev → Ev → Bool) (x y : Ev) : Bool := !(decide (x = y)) && bf x y
abbrev wkO (m : KM) (F : Nat) (caps : List AV) (p : List Sg) : List (Nat × Exe.Obj) := [(0, .box 109 [.im (.mp 3 (kEA m)), .im (.fn F caps), fl (.int .i64 0), .ref 1]), (1, .row 66 (imR (p.map sgA)))]
def okE (x : Ev) : Prop := I64 x.tr ∧ I64 x.id
abbrev BfC (F : Nat) (caps : List AV) (bf : Ev → Ev → Bool) : Prop := ∀ x y : Ev, okE x → okE y → PCall Tryz.prog F (.g ((evA x).map .im) :: .g ((evA y).map .im) :: caps.map fun c => .c (.im c)) (.t [(false, [fl (.bool (bf x y))]), (false, [fl (.int .i64 0)])])
attribute [local irreducible] W AX Run RunD AStep AOp AOpX AStB AStH AStG Fits PCall GCall PostG Post Stop
theorem ask_c (m : KM) (F : Nat) (caps : List AV) (bf : Ev → Ev → Bool) (hbf : BfC F caps bf) (p : List Sg) (x y : Ev) (hx : okE x) (hy : okE y) :
    GCall Tryz.prog 68 2 (St.g [.c (.ptr 0 0), evT x, evT y] (wkO m F caps p) 2) (St.r (ft (.bool (askB bf x y))) (wkO m F caps p) 2) := by
  have c1 := hbf x y hx hy
  clear hx hy
  clear hbf
  unfold askB
  obtain ⟨a, b, e⟩ := x
  obtain ⟨a2, b2, e2⟩ := y
  simp only [evT, evA, List.map] at c1 ⊢
  have hG := eqG52
  have hE := fun w => eqEv a b a2 b2 e e2 w
  have he := evEq ⟨a, b, e⟩ ⟨a2, b2, e2⟩
  simp only at he
  cases h : decide ((⟨a, b, e⟩ : Ev) = ⟨a2, b2, e2⟩)
  · rw [h] at he
    simp only [he] at hE
    refine GCall.introG (nt := 36) (rs := [.tmp 6]) Tryz.func68 rfl ⟨by kernel_rfl, by kernel_rfl, by kernel_rfl⟩ (by simp) ?_
    rintro ⟨P, w0, ok0, may, np, pblk⟩ rfl rfl
    simp only [go_sem]
    repeat' (first | refine W.seq fun K hK => ?_ | refine W.block ?_ | ((first | refine wR ?_ | refine wD ?_ | refine W.skip ?_ | refine W.exit ?_ | refine W.ret (Post.ret ?_) | refine aP ?_ | refine aF ?_ | refine aC ?_ | refine aE ?_ | refine aD ?_); simp only [go_sem, reduceCtorEq, Bool.not_false, Bool.true_and]) | refine wT ?_ | refine wF ?_ | refine wC (fun h => ?_) (fun h => ?_) | refine iK ?_ | refine aI2 ?_ | (refine hK _ ?_; clear hK K) | clear hK K)
    refine W.ret (PostG.ret (Fits.fit [(0, 0), (1, 1)] [6] 2 rfl rfl Fits.rfl) rfl rfl ?_)
    simp only [St.r, go_sem]
  · rw [h] at he
    simp only [he] at hE
    refine GCall.introG (nt := 36) (rs := [.tmp 6]) Tryz.func68 rfl ⟨by kernel_rfl, by kernel_rfl, by kernel_rfl⟩ (by simp) ?_
    rintro ⟨P, w0, ok0, may, np, pblk⟩ rfl rfl
    simp only [go_sem]
    repeat' (first | refine W.seq fun K hK => ?_ | refine W.block ?_ | ((first | refine wR ?_ | refine wD ?_ | refine W.skip ?_ | refine W.exit ?_ | refine W.ret (Post.ret ?_) | refine aP ?_ | refine aF ?_ | refine aC ?_ | refine aE ?_ | refine aD ?_); simp only [go_sem, reduceCtorEq, Bool.not_true, Bool.false_and]) | refine wT ?_ | refine wF ?_ | refine wC (fun h => ?_) (fun h => ?_) | refine iK ?_ | refine aI2 ?_ | (refine hK _ ?_; clear hK K) | clear hK K)
    refine W.ret (PostG.ret (Fits.fit [(0, 0), (1, 1)] [6] 2 rfl rfl Fits.rfl) rfl rfl ?_)
    simp only [St.r, go_sem]
theorem froE_kE (m : KM) : froE (kEA m) = m.map fun y => (Value.int .i64 y.1, false, [Cell.im (.sl 36 (y.2.map spA))]) := by
  rw [froE_map]; simp [kEA, imL]
theorem kEA_get (k : Int) : ∀ m : KM, mget (.int .i64 k) (froE (kEA m)) = (getK m k).map fun l => (false, [.im (.sl 36 (l.map spA))]) := by
  intro m
  rw [froE_kE]
  induction m with
  | nil => rfl
  | cons y r ih =>
    simp only [List.map_cons, mget, getK]
    by_cases h : y.1 = k
    · simp [h]
    · simp [h, ih]
/-- One child looked at. -/
def chStep (bf : Ev → Ev → Bool) (lo cur : Ev) (acc : Option (Spn × Ev)) (k : Spn) : Option (Spn × Ev) :=
  if askB bf (evOf k false) cur && askB bf lo (evOf k true) && askB bf (evOf k false) (evOf k true) then
    let v := if askB bf (evOf k true) cur then evOf k true else cur
    match acc with
    | none => some (k, v)
    | some y => if askB bf y.2 v then some (k, v) else some y
  else acc
def chooseF (bf : Ev → Ev → Bool) (l : List Spn) (lo cur : Ev) : Option (Spn × Ev) := l.foldl (chStep bf lo cur) none
def chS : Option (Spn × Ev) → List Cell
  | none => zSpn
  | some y => (spA y.1).map .im
def chE : Option (Spn × Ev) → List Cell
  | none => [fl (.int .i64 0), fl (.int .i64 0), fl (.bool false)]
  | some y => (evA y.2).map .im
abbrev chT (a : Option (Spn × Ev)) : TV := .t [(true, chS a), (true, chE a), (false, [fl (.bool a.isSome)])]
end Go.Proofs.YtaaflhmfhnfjhaaGreat
namespace Go.Proofs.YtaaflhmfhnfjhaaGreat
open Go.RowKit Go.Exe
theorem getK_le {N : Nat} {m : KM} (h : ∀ y ∈ m, y.2.length ≤ N) (k : Int) : ((getK m k).getD []).length ≤ N := by
  induction m with
  | nil => simp [getK]
  | cons y r ih =>
    simp only [getK]
    split
    · exact h y (by simp)
    · exact ih fun z hz => h z (by simp [hz])
theorem getK_mem {m : KM} {k : Int} {s : Spn} (h : s ∈ (getK m k).getD []) : ∃ y ∈ m, s ∈ y.2 := by
  induction m with
  | nil => simp [getK] at h
  | cons y r ih =>
    simp only [getK] at h
    split at h
    · exact ⟨y, by simp, h⟩
    · obtain ⟨z, hz, h2⟩ := ih h
      exact ⟨z, by simp [hz], h2⟩
theorem rnCs_chS (r : Ren) (a : Option (Spn × Ev)) : rnCs r (chS a) = chS a := by cases a <;> rfl
theorem rnCs_chE (r : Ren) (a : Option (Spn × Ev)) : rnCs r (chE a) = chE a := by cases a <;> rfl
theorem outF {P : Program} {f np : Nat} {s0 s1 s1' : St} (h : GCall P f np s0 s1) (hf : ∀ C : Ctx, C.P = P → C.np = np → Fits C s1 s1') : GCall P f np s0 s1' :=
  ⟨h.1, fun C hC hnp vs w L hs => (h.2 C hC hnp vs w L hs).mono fun e w' ⟨v, L', h1, h2⟩ => by
    obtain ⟨L2, h3⟩ := hf C hC hnp _ _ ⟨L', h2⟩
    exact ⟨v, L2, h1, h3⟩⟩
theorem chStep_eq (bf : Ev → Ev → Bool) (lo cur : Ev) (acc : Option (Spn × Ev)) (k : Spn) : chStep bf lo cur acc k = if askB bf (evOf k false) cur && askB bf lo (evOf k true) && askB bf (evOf k false) (evOf k true) then
    (match acc with
    | none => some (k, if askB bf (evOf k true) cur then evOf k true else cur)
    | some y => if askB bf y.2 (if askB bf (evOf k true) cur then evOf k true else cur) then some (k, if askB bf (evOf k true) cur then evOf k true else cur) else some y)
  else acc := rfl
attribute [local irreducible] W AX Run RunD AStep AOp AOpX AStB AStH AStG Fits PCall GCall PostG Post Stop
theorem choose0_c (m : KM) (hI : ∀ y ∈ m, y.2.length ≤ 140737488355328) (F : Nat) (caps : List AV) (bf : Ev → Ev → Bool) (hbf : BfC F caps bf) (p : List Sg) (s : Spn) (lo cur : Ev) (hid : I64 s.id) (hlo : okE lo) (hcur : okE cur) (hkk : ∀ y ∈ m, ∀ z ∈ y.2, I64 z.tr ∧ I64 z.id) :
    GCall Tryz.prog 69 2 (St.g [.c (.ptr 0 0), spT s, evT lo, evT cur] (wkO m F caps p) 2) (St.r (chT (chooseF bf ((getK m s.id).getD []) lo cur)) (wkO m F caps p ++ [(2, .box 36 (chS (chooseF bf ((getK m s.id).getD []) lo cur))), (3, .box 52 (chE (chooseF bf ((getK m s.id).getD []) lo cur)))]) 4) := by
  have c37 := event_c
  have ca := ask_c m F caps bf hbf p
  clear hbf
  have hko := koI hid
  have hg := kEA_get s.id m
  simp only [spT, spA, evT, evA, List.map]
  refine GCall.introG (nt := 71) (rs := [.cell 8 36, .cell 9 52, .tmp 10]) Tryz.func69 rfl ⟨by kernel_rfl, by kernel_rfl, by kernel_rfl⟩ (by simp) ?_
  rintro ⟨P, w0, ok0, may, np, pblk⟩ rfl rfl
  simp only [go_sem]
  repeat' (first | refine W.stop (id := 1) ?_ | refine W.seq fun K hK => ?_ | refine W.block ?_ | ((first | refine wR ?_ | refine wD ?_ | refine W.skip ?_ | refine W.exit ?_ | refine W.ret (Post.ret ?_) | refine aP ?_ | refine aF ?_ | refine aL ?_ | refine aU ?_ | refine aM ?_ | refine aN ?_ | refine aR ?_); simp only [go_sem, reduceCtorEq]) | refine wT ?_ | refine wF ?_ | refine wC (fun h => ?_) (fun h => ?_) | refine iK ?_ | refine aI2 ?_ | (refine hK _ ?_; clear hK K) | clear hK K)
  refine Stop.out ?_
  obtain ⟨L, hL⟩ : ∃ l, l = (getK m s.id).getD [] := ⟨_, rfl⟩
  have hLl : L.length ≤ 140737488355328 := by rw [hL]; exact getK_le hI s.id
  have hLk : ∀ z ∈ L, I64 z.tr ∧ I64 z.id := fun z hz => by
    obtain ⟨y, hy, h⟩ := getK_mem (hL ▸ hz)
    exact hkk y hy z h
  clear hkk
  have hK2 : ∀ s1, Fits { P := Tryz.prog, w0 := w0, ok0 := ok0, may := may, np := 2, pblk := pblk } s1 { t := [(0, .c (.ptr 0 0)), (6, .c (.ptr 2 0)), (7, .c (.ptr 3 0)), (8, .c (.ptr 4 0)), (9, .c (.ptr 5 0)), (10, ft (.bool false)), (20, .c (.im (.sl 36 (L.map spA)))), (21, ft (.int .i64 L.length)), (22, ft (.int .i64 0))], h := wkO m F caps p ++ [(2, .box 52 ((evA lo).map .im)), (3, .box 52 ((evA cur).map .im)), (4, .box 36 zSpn), (5, .box 52 (chE none))], nx := 6, ex := [], nt := 71 } → K s1 := by
    intro s1 hf
    refine hK _ (W.fits hf ?_)
    clear hf hK K
    repeat' (first | refine W.seq fun K hK => ?_ | refine W.block ?_ | ((first | refine wR ?_ | refine wD ?_ | refine W.skip ?_ | refine W.exit ?_ | refine W.ret (Post.ret ?_) | refine aP ?_ | refine aF ?_ | refine aL ?_ | refine aU ?_ | refine aM ?_ | refine aN ?_ | refine aR ?_); simp only [go_sem, reduceCtorEq]) | refine wT ?_ | refine wF ?_ | refine wC (fun h => ?_) (fun h => ?_) | refine iK ?_ | refine aI2 ?_ | (refine hK _ ?_; clear hK K) | clear hK K)
    refine W.loopF (T := fun x : Nat × Option (Spn × Ev) => { t := [(0, .c (.ptr 0 0)), (6, .c (.ptr 2 0)), (7, .c (.ptr 3 0)), (8, .c (.ptr 4 0)), (9, .c (.ptr 5 0)), (10, ft (.bool x.2.isSome)), (20, .c (.im (.sl 36 (L.map spA)))), (21, ft (.int .i64 L.length)), (22, ft (.int .i64 (x.1 : Nat)))], h := wkO m F caps p ++ [(2, .box 52 ((evA lo).map .im)), (3, .box 52 ((evA cur).map .im)), (4, .box 36 (chS x.2)), (5, .box 52 (chE x.2))], nx := 6, ex := [], nt := 71 })
      (Inv := fun x => x.1 ≤ L.length ∧ x.2 = (L.take x.1).foldl (chStep bf lo cur) none ∧ ∀ y, x.2 = some y → okE y.2) (μ := fun x => L.length - x.1) (x0 := (0, none)) Fits.rfl ⟨Nat.zero_le _, rfl, by simp⟩ ?_
    rintro ⟨i, acc⟩ ⟨hi, hacc, hok⟩ KL hKL
    simp only at hi hacc hok
    by_cases hlt : i < L.length
    · obtain ⟨k, hx, hm, hd⟩ := drop_at hlt
      have e1 : decide ((i : Int) < L.length) = true := by simp; omega
      have hw := w64s i (by omega)
      have hstep : (L.take (i + 1)).foldl (chStep bf lo cur) none = chStep bf lo cur acc k := by
        rw [List.take_add_one, hx, List.foldl_append, ← hacc]; rfl
      clear hg hL
      have cs := c37 k false
      have ce := c37 k true
      clear c37
      have hf := hLk k hm
      have ht := hLk k hm
      have a1 := ca (evOf k false) cur hf hcur
      have a2 := ca lo (evOf k true) hlo ht
      have a3 := ca (evOf k false) (evOf k true) hf ht
      have a4 := ca (evOf k true) cur ht hcur
      have hs2 := chStep_eq bf lo cur acc k
      simp only [spT, spA, evT, evA, evOf, List.map] at cs ce a1 a2 a3 a4
      generalize hA1 : askB bf (evOf k false) cur = A1 at *
      generalize hA2 : askB bf lo (evOf k true) = A2 at *
      generalize hA3 : askB bf (evOf k false) (evOf k true) = A3 at *
      generalize hA4 : askB bf (evOf k true) cur = A4 at *
      simp only [evOf] at hA1 hA2 hA3 hA4
      rw [hA1] at a1
      rw [hA2] at a2
      rw [hA3] at a3
      rw [hA4] at a4
      clear hA1 hA2 hA3 hA4
      repeat' (first | refine W.stop (id := 4) ?_ | refine W.seq fun K hK => ?_ | refine W.block ?_ | ((first | refine wR ?_ | refine wD ?_ | refine W.skip ?_ | refine W.exit ?_ | refine W.ret (Post.ret ?_) | refine aP ?_ | refine aF ?_ | refine aL ?_ | refine aU (hnn := by simp only [go_sem, reduceCtorEq, List.getElem?_map, hx, spA, e1]) ?_ | refine aM ?_ | refine aN ?_ | refine aR ?_); simp only [go_sem, reduceCtorEq, List.getElem?_map, hx, spA, e1]) | refine wT ?_ | refine wF ?_ | refine wC (fun h => ?_) (fun h => ?_) | refine iK ?_ | refine aI2 ?_ | (refine hK _ ?_; clear hK K) | clear hK K)
      refine Stop.out ?_
      refine W.fits (s' := { t := [(0, .c (.ptr 0 0)), (6, .c (.ptr 2 0)), (7, .c (.ptr 3 0)), (8, .c (.ptr 4 0)), (9, .c (.ptr 5 0)), (10, ft (.bool (acc).isSome)), (12, .c (.ptr 6 0)), (20, .c (.im (.sl 36 (L.map spA)))), (21, ft (.int .i64 L.length)), (22, ft (.int .i64 (i : Nat)))], h := wkO m F caps p ++ [(2, .box 52 ((evA lo).map .im)), (3, .box 52 ((evA cur).map .im)), (4, .box 36 (chS acc)), (5, .box 52 (chE acc)), (6, .box 36 ((spA k).map .im))], nx := 7, ex := [], nt := 71 }) ?_ ?_
      · refine Fits.fit [(0, 0), (1, 1), (2, 2), (3, 3), (4, 4), (5, 5), (9, 6)] [0, 6, 7, 8, 9, 10, 12, 20, 21, 22] 7 rfl rfl ?_
        simp only [go_sem, rnCs_chS, rnCs_chE, evA, List.map]
        exact Fits.rfl
      have hKF : chStep bf lo cur acc k = acc → ∀ s1, Fits { P := Tryz.prog, w0 := w0, ok0 := ok0, may := may, np := 2, pblk := pblk } s1 { t := [(0, .c (.ptr 0 0)), (6, .c (.ptr 2 0)), (7, .c (.ptr 3 0)), (8, .c (.ptr 4 0)), (9, .c (.ptr 5 0)), (10, ft (.bool (acc).isSome)), (12, .c (.ptr 6 0)), (20, .c (.im (.sl 36 (L.map spA)))), (21, ft (.int .i64 L.length)), (22, ft (.int .i64 (i : Nat))), (48, ft (.bool true))], h := wkO m F caps p ++ [(2, .box 52 ((evA lo).map .im)), (3, .box 52 ((evA cur).map .im)), (4, .box 36 (chS acc)), (5, .box 52 (chE acc)), (6, .box 36 ((spA k).map .im))], nx := 7, ex := [], nt := 71 } → K s1 := by
        intro h2 s1 hf
        refine hK _ (W.fits hf ?_)
        clear hf hK K
        simp only [spA, evA, evOf, List.map, List.cons_append, List.nil_append]
        repeat' (first | refine W.seq fun K hK => ?_ | refine W.block ?_ | ((first | refine wR ?_ | refine wD ?_ | refine W.skip ?_ | refine W.exit ?_ | refine W.ret (Post.ret ?_) | refine aP ?_ | refine aF ?_ | refine aL ?_ | refine aU (hnn := by simp only [go_sem, reduceCtorEq, hw]) ?_ | refine aM ?_ | refine aN ?_ | refine aR ?_); simp only [go_sem, reduceCtorEq, hw]) | refine wT ?_ | refine wF ?_ | refine wC (fun h => ?_) (fun h => ?_) | refine iK ?_ | refine aI2 ?_ | (refine hK _ ?_; clear hK K) | clear hK K)
        refine hKL.to (i + 1, acc) ⟨by simp only; omega, by simp only; rw [hstep, h2], hok⟩ (by simp only; omega) (Fits.fit [(0, 0), (1, 1), (2, 2), (3, 3), (4, 4), (5, 5)] [0, 6, 7, 8, 9, 10, 20, 21, 22] 6 rfl rfl ?_)
        simp only [go_sem, rnCs_chS, rnCs_chE, spA, evA, evOf, List.map, Option.isSome_none, Option.isSome_some]
        exact Fits.rfl
      cases A1 with
      | false =>
        have h2 : chStep bf lo cur acc k = acc := by rw [hs2]; rfl
        clear hK hKL
        simp only [spA, evA, evOf, List.map, List.cons_append, List.nil_append]
        repeat' (first | refine W.seq fun K hK => ?_ | refine W.block ?_ | ((first | refine wR ?_ | refine wD ?_ | refine W.skip ?_ | refine W.exit ?_ | refine W.ret (Post.ret ?_) | refine aP ?_ | refine aF ?_ | refine aL ?_ | refine aU ?_ | refine aM ?_ | refine aN ?_ | refine aR ?_); simp only [go_sem, reduceCtorEq]) | refine wT ?_ | refine wF ?_ | refine wC (fun h => ?_) (fun h => ?_) | refine iK ?_ | refine aI2 ?_ | (refine hK _ ?_; clear hK K) | clear hK K)
        refine AX.gcall [0, 1] rfl rfl (a1) (by simp only [go_sem, reduceCtorEq]) (by simp only [go_sem, reduceCtorEq]) rfl rfl (by simp only [go_sem, Obj.owns]) rfl (by simp only [go_sem, Obj.owns]) rfl rfl ?_
        simp only [go_sem, reduceCtorEq]
        repeat' (first | refine W.seq fun K hK => ?_ | refine W.block ?_ | ((first | refine wR ?_ | refine wD ?_ | refine W.skip ?_ | refine W.exit ?_ | refine W.ret (Post.ret ?_) | refine aP ?_ | refine aF ?_ | refine aL ?_ | refine aU ?_ | refine aM ?_ | refine aN ?_ | refine aR ?_); simp only [go_sem, reduceCtorEq]) | refine wT ?_ | refine wF ?_ | refine wC (fun h => ?_) (fun h => ?_) | refine iK ?_ | refine aI2 ?_ | (refine hK _ ?_; clear hK K) | clear hK K)
        refine hKF h2 _ (Fits.fit [(0, 0), (1, 1), (2, 2), (3, 3), (4, 4), (5, 5), (6, 6)] [0, 6, 7, 8, 9, 10, 12, 20, 21, 22, 48] 7 rfl rfl ?_)
        simp only [go_sem, rnCs_chS, rnCs_chE, spA, evA, evOf, List.map]
        exact Fits.rfl
      | true =>
      cases A2 with
      | false =>
        have h2 : chStep bf lo cur acc k = acc := by rw [hs2]; rfl
        clear hK hKL
        simp only [spA, evA, evOf, List.map, List.cons_append, List.nil_append]
        repeat' (first | refine W.seq fun K hK => ?_ | refine W.block ?_ | ((first | refine wR ?_ | refine wD ?_ | refine W.skip ?_ | refine W.exit ?_ | refine W.ret (Post.ret ?_) | refine aP ?_ | refine aF ?_ | refine aL ?_ | refine aU ?_ | refine aM ?_ | refine aN ?_ | refine aR ?_); simp only [go_sem, reduceCtorEq]) | refine wT ?_ | refine wF ?_ | refine wC (fun h => ?_) (fun h => ?_) | refine iK ?_ | refine aI2 ?_ | (refine hK _ ?_; clear hK K) | clear hK K)
        refine AX.gcall [0, 1] rfl rfl (a1) (by simp only [go_sem, reduceCtorEq]) (by simp only [go_sem, reduceCtorEq]) rfl rfl (by simp only [go_sem, Obj.owns]) rfl (by simp only [go_sem, Obj.owns]) rfl rfl ?_
        simp only [go_sem, reduceCtorEq]
        repeat' (first | refine W.seq fun K hK => ?_ | refine W.block ?_ | ((first | refine wR ?_ | refine wD ?_ | refine W.skip ?_ | refine W.exit ?_ | refine W.ret (Post.ret ?_) | refine aP ?_ | refine aF ?_ | refine aL ?_ | refine aU ?_ | refine aM ?_ | refine aN ?_ | refine aR ?_); simp only [go_sem, reduceCtorEq]) | refine wT ?_ | refine wF ?_ | refine wC (fun h => ?_) (fun h => ?_) | refine iK ?_ | refine aI2 ?_ | (refine hK _ ?_; clear hK K) | clear hK K)
        refine AX.gcall [0, 1] rfl rfl (a2) (by simp only [go_sem, reduceCtorEq]) (by simp only [go_sem, reduceCtorEq]) rfl rfl (by simp only [go_sem, Obj.owns]) rfl (by simp only [go_sem, Obj.owns]) rfl rfl ?_
        simp only [go_sem, reduceCtorEq]
        repeat' (first | refine W.seq fun K hK => ?_ | refine W.block ?_ | ((first | refine wR ?_ | refine wD ?_ | refine W.skip ?_ | refine W.exit ?_ | refine W.ret (Post.ret ?_) | refine aP ?_ | refine aF ?_ | refine aL ?_ | refine aU ?_ | refine aM ?_ | refine aN ?_ | refine aR ?_); simp only [go_sem, reduceCtorEq]) | refine wT ?_ | refine wF ?_ | refine wC (fun h => ?_) (fun h => ?_) | refine iK ?_ | refine aI2 ?_ | (refine hK _ ?_; clear hK K) | clear hK K)
        refine hKF h2 _ (Fits.fit [(0, 0), (1, 1), (2, 2), (3, 3), (4, 4), (5, 5), (6, 6)] [0, 6, 7, 8, 9, 10, 12, 20, 21, 22, 48] 7 rfl rfl ?_)
        simp only [go_sem, rnCs_chS, rnCs_chE, spA, evA, evOf, List.map]
        exact Fits.rfl
      | true =>
      cases A3 with
      | false =>
        have h2 : chStep bf lo cur acc k = acc := by rw [hs2]; rfl
        clear hK hKL
        simp only [spA, evA, evOf, List.map, List.cons_append, List.nil_append]
        repeat' (first | refine W.seq fun K hK => ?_ | refine W.block ?_ | ((first | refine wR ?_ | refine wD ?_ | refine W.skip ?_ | refine W.exit ?_ | refine W.ret (Post.ret ?_) | refine aP ?_ | refine aF ?_ | refine aL ?_ | refine aU ?_ | refine aM ?_ | refine aN ?_ | refine aR ?_); simp only [go_sem, reduceCtorEq]) | refine wT ?_ | refine wF ?_ | refine wC (fun h => ?_) (fun h => ?_) | refine iK ?_ | refine aI2 ?_ | (refine hK _ ?_; clear hK K) | clear hK K)
        refine AX.gcall [0, 1] rfl rfl (a1) (by simp only [go_sem, reduceCtorEq]) (by simp only [go_sem, reduceCtorEq]) rfl rfl (by simp only [go_sem, Obj.owns]) rfl (by simp only [go_sem, Obj.owns]) rfl rfl ?_
        simp only [go_sem, reduceCtorEq]
        repeat' (first | refine W.seq fun K hK => ?_ | refine W.block ?_ | ((first | refine wR ?_ | refine wD ?_ | refine W.skip ?_ | refine W.exit ?_ | refine W.ret (Post.ret ?_) | refine aP ?_ | refine aF ?_ | refine aL ?_ | refine aU ?_ | refine aM ?_ | refine aN ?_ | refine aR ?_); simp only [go_sem, reduceCtorEq]) | refine wT ?_ | refine wF ?_ | refine wC (fun h => ?_) (fun h => ?_) | refine iK ?_ | refine aI2 ?_ | (refine hK _ ?_; clear hK K) | clear hK K)
        refine AX.gcall [0, 1] rfl rfl (a2) (by simp only [go_sem, reduceCtorEq]) (by simp only [go_sem, reduceCtorEq]) rfl rfl (by simp only [go_sem, Obj.owns]) rfl (by simp only [go_sem, Obj.owns]) rfl rfl ?_
        simp only [go_sem, reduceCtorEq]
        repeat' (first | refine W.seq fun K hK => ?_ | refine W.block ?_ | ((first | refine wR ?_ | refine wD ?_ | refine W.skip ?_ | refine W.exit ?_ | refine W.ret (Post.ret ?_) | refine aP ?_ | refine aF ?_ | refine aL ?_ | refine aU ?_ | refine aM ?_ | refine aN ?_ | refine aR ?_); simp only [go_sem, reduceCtorEq]) | refine wT ?_ | refine wF ?_ | refine wC (fun h => ?_) (fun h => ?_) | refine iK ?_ | refine aI2 ?_ | (refine hK _ ?_; clear hK K) | clear hK K)
        refine AX.gcall [0, 1] rfl rfl (a3) (by simp only [go_sem, reduceCtorEq]) (by simp only [go_sem, reduceCtorEq]) rfl rfl (by simp only [go_sem, Obj.owns]) rfl (by simp only [go_sem, Obj.owns]) rfl rfl ?_
        simp only [go_sem, reduceCtorEq]
        repeat' (first | refine W.seq fun K hK => ?_ | refine W.block ?_ | ((first | refine wR ?_ | refine wD ?_ | refine W.skip ?_ | refine W.exit ?_ | refine W.ret (Post.ret ?_) | refine aP ?_ | refine aF ?_ | refine aL ?_ | refine aU ?_ | refine aM ?_ | refine aN ?_ | refine aR ?_); simp only [go_sem, reduceCtorEq]) | refine wT ?_ | refine wF ?_ | refine wC (fun h => ?_) (fun h => ?_) | refine iK ?_ | refine aI2 ?_ | (refine hK _ ?_; clear hK K) | clear hK K)
        refine hKF h2 _ (Fits.fit [(0, 0), (1, 1), (2, 2), (3, 3), (4, 4), (5, 5), (6, 6)] [0, 6, 7, 8, 9, 10, 12, 20, 21, 22, 48] 7 rfl rfl ?_)
        simp only [go_sem, rnCs_chS, rnCs_chE, spA, evA, evOf, List.map]
        exact Fits.rfl
      | true =>
      clear hKF
      simp only [Bool.and_self, if_true] at hs2
      have hKT : ∀ s1, Fits { P := Tryz.prog, w0 := w0, ok0 := ok0, may := may, np := 2, pblk := pblk } s1 { t := [(0, .c (.ptr 0 0)), (6, .c (.ptr 2 0)), (7, .c (.ptr 3 0)), (8, .c (.ptr 4 0)), (9, .c (.ptr 5 0)), (10, ft (.bool (acc).isSome)), (12, .c (.ptr 6 0)), (20, .c (.im (.sl 36 (L.map spA)))), (21, ft (.int .i64 L.length)), (22, ft (.int .i64 (i : Nat))), (48, ft (.bool false))], h := wkO m F caps p ++ [(2, .box 52 ((evA lo).map .im)), (3, .box 52 ((evA cur).map .im)), (4, .box 36 (chS acc)), (5, .box 52 (chE acc)), (6, .box 36 ((spA k).map .im))], nx := 7, ex := [], nt := 71 } → K s1 := by
        intro s1 hf
        refine hK _ (W.fits hf ?_)
        clear hf hK K a1 a2 a3
        simp only [spA, evA, evOf, List.map, List.cons_append, List.nil_append]
        repeat' (first | refine W.stop (id := 6) ?_ | refine W.seq fun K hK => ?_ | refine W.block ?_ | ((first | refine wR ?_ | refine wD ?_ | refine W.skip ?_ | refine W.exit ?_ | refine W.ret (Post.ret ?_) | refine aP ?_ | refine aF ?_ | refine aL ?_ | refine aU (hnn := by simp only [go_sem, reduceCtorEq, hw]) ?_ | refine aM ?_ | refine aN ?_ | refine aR ?_); simp only [go_sem, reduceCtorEq, hw]) | refine wT ?_ | refine wF ?_ | refine wC (fun h => ?_) (fun h => ?_) | refine iK ?_ | refine aI2 ?_ | (refine hK _ ?_; clear hK K) | clear hK K)
        refine Stop.out ?_
        obtain ⟨e, he⟩ : ∃ e, e = if A4 = true then evOf k true else cur := ⟨_, rfl⟩
        have heo : okE e := by
          rw [he]
          split
          · exact ht
          · exact hcur
        rw [← he] at hs2
        have a7 : ∀ y, acc = some y → GCall Tryz.prog 68 2 (St.g [.c (.ptr 0 0), evT y.2, evT e] (wkO m F caps p) 2) (St.r (ft (.bool (askB bf y.2 e))) (wkO m F caps p) 2) := fun y hy => ca y.2 e (hok y hy) heo
        have hoke : ∀ y, some (k, e) = some y → okE y.2 := fun y hy => by cases hy; exact heo
        clear ca
        repeat' (first | refine W.seq fun K hK => ?_ | refine W.block ?_ | ((first | refine wR ?_ | refine wD ?_ | refine W.skip ?_ | refine W.exit ?_ | refine W.ret (Post.ret ?_) | refine aP ?_ | refine aF ?_ | refine aL ?_ | refine aU (hnn := by simp only [go_sem, reduceCtorEq, hw]) ?_ | refine aM ?_ | refine aN ?_ | refine aR ?_); simp only [go_sem, reduceCtorEq, hw]) | refine wT ?_ | refine wF ?_ | refine wC (fun h => ?_) (fun h => ?_) | refine iK ?_ | refine aI2 ?_ | (refine hK _ ?_; clear hK K) | clear hK K)
        refine AX.gcall [0, 1] rfl rfl (a4) (by simp only [go_sem, reduceCtorEq]) (by simp only [go_sem, reduceCtorEq]) rfl rfl (by simp only [go_sem, Obj.owns]) rfl (by simp only [go_sem, Obj.owns]) rfl rfl ?_
        simp only [go_sem, reduceCtorEq]
        repeat' (first | refine iK ?_ | refine aI2 ?_)
        refine hK _ ?_
        clear hK K
        have hK8 : ∀ s1, Fits { P := Tryz.prog, w0 := w0, ok0 := ok0, may := may, np := 2, pblk := pblk } s1 { t := [(0, .c (.ptr 0 0)), (6, .c (.ptr 2 0)), (7, .c (.ptr 3 0)), (8, .c (.ptr 4 0)), (9, .c (.ptr 5 0)), (10, ft (.bool (acc).isSome)), (12, .c (.ptr 6 0)), (13, .c (.ptr 7 0)), (20, .c (.im (.sl 36 (L.map spA)))), (21, ft (.int .i64 L.length)), (22, ft (.int .i64 (i : Nat)))], h := wkO m F caps p ++ [(2, .box 52 ((evA lo).map .im)), (3, .box 52 ((evA cur).map .im)), (4, .box 36 (chS acc)), (5, .box 52 (chE acc)), (6, .box 36 ((spA k).map .im)), (7, .box 52 ((evA e).map .im))], nx := 8, ex := [], nt := 71 } → K s1 := by
          intro s1 hf
          refine hK _ (W.fits hf ?_)
          clear hf hK K a4 hx hm hd
          cases acc with
          | none =>
            simp only at hs2
            simp only [chS, chE, zSpn, Option.isSome_none, spA, evA, evOf, List.map, List.cons_append, List.nil_append]
            repeat' (first | refine W.seq fun K hK => ?_ | refine W.block ?_ | ((first | refine wR ?_ | refine wD ?_ | refine W.skip ?_ | refine W.exit ?_ | refine W.ret (Post.ret ?_) | refine aP ?_ | refine aF ?_ | refine aL ?_ | refine aU (hnn := by simp only [go_sem, reduceCtorEq, hw]) ?_ | refine aM ?_ | refine aN ?_ | refine aR ?_); simp only [go_sem, reduceCtorEq, hw]) | refine wT ?_ | refine wF ?_ | refine wC (fun h => ?_) (fun h => ?_) | refine iK ?_ | refine aI2 ?_ | (refine hK _ ?_; clear hK K) | clear hK K)
            refine hKL.to (i + 1, some (k, e)) ⟨by simp only; omega, by simp only; rw [hstep, hs2], hoke⟩ (by simp only; omega) (Fits.fit [(0, 0), (1, 1), (2, 2), (3, 3), (4, 4), (5, 5)] [0, 6, 7, 8, 9, 10, 20, 21, 22] 6 rfl rfl ?_)
            simp only [go_sem, rnCs_chS, rnCs_chE, spA, evA, evOf, List.map, Option.isSome_none, Option.isSome_some, chS, chE]
            exact Fits.rfl
          | some y =>
            obtain ⟨z, u⟩ := y
            have a8 := a7 _ rfl
            clear a7
            simp only at hs2
            generalize askB bf u e = A5 at *
            simp only [spT, spA, evT, evA, evOf, List.map] at a8
            cases A5 with
            | false =>
              simp only [Bool.false_eq_true, if_false] at hs2
              simp only [chS, chE, zSpn, Option.isSome_some, spA, evA, evOf, List.map, List.cons_append, List.nil_append]
              repeat' (first | refine W.seq fun K hK => ?_ | refine W.block ?_ | ((first | refine wR ?_ | refine wD ?_ | refine W.skip ?_ | refine W.exit ?_ | refine W.ret (Post.ret ?_) | refine aP ?_ | refine aF ?_ | refine aL ?_ | refine aU (hnn := by simp only [go_sem, reduceCtorEq, hw]) ?_ | refine aM ?_ | refine aN ?_ | refine aR ?_); simp only [go_sem, reduceCtorEq, hw]) | refine wT ?_ | refine wF ?_ | refine wC (fun h => ?_) (fun h => ?_) | refine iK ?_ | refine aI2 ?_ | (refine hK _ ?_; clear hK K) | clear hK K)
              refine AX.gcall [0, 1] rfl rfl (a8) (by simp only [go_sem, reduceCtorEq]) (by simp only [go_sem, reduceCtorEq]) rfl rfl (by simp only [go_sem, Obj.owns]) rfl (by simp only [go_sem, Obj.owns]) rfl rfl ?_
              simp only [go_sem, reduceCtorEq]
              repeat' (first | refine W.seq fun K hK => ?_ | refine W.block ?_ | ((first | refine wR ?_ | refine wD ?_ | refine W.skip ?_ | refine W.exit ?_ | refine W.ret (Post.ret ?_) | refine aP ?_ | refine aF ?_ | refine aL ?_ | refine aU (hnn := by simp only [go_sem, reduceCtorEq, hw]) ?_ | refine aM ?_ | refine aN ?_ | refine aR ?_); simp only [go_sem, reduceCtorEq, hw]) | refine wT ?_ | refine wF ?_ | refine wC (fun h => ?_) (fun h => ?_) | refine iK ?_ | refine aI2 ?_ | (refine hK _ ?_; clear hK K) | clear hK K)
              refine hKL.to (i + 1, some (z, u)) ⟨by simp only; omega, by simp only; rw [hstep, hs2], hok⟩ (by simp only; omega) (Fits.fit [(0, 0), (1, 1), (2, 2), (3, 3), (4, 4), (5, 5)] [0, 6, 7, 8, 9, 10, 20, 21, 22] 6 rfl rfl ?_)
              simp only [go_sem, rnCs_chS, rnCs_chE, spA, evA, evOf, List.map, Option.isSome_none, Option.isSome_some, chS, chE]
              exact Fits.rfl
            | true =>
              simp only [if_true] at hs2
              simp only [chS, chE, zSpn, Option.isSome_some, spA, evA, evOf, List.map, List.cons_append, List.nil_append]
              repeat' (first | refine W.seq fun K hK => ?_ | refine W.block ?_ | ((first | refine wR ?_ | refine wD ?_ | refine W.skip ?_ | refine W.exit ?_ | refine W.ret (Post.ret ?_) | refine aP ?_ | refine aF ?_ | refine aL ?_ | refine aU (hnn := by simp only [go_sem, reduceCtorEq, hw]) ?_ | refine aM ?_ | refine aN ?_ | refine aR ?_); simp only [go_sem, reduceCtorEq, hw]) | refine wT ?_ | refine wF ?_ | refine wC (fun h => ?_) (fun h => ?_) | refine iK ?_ | refine aI2 ?_ | (refine hK _ ?_; clear hK K) | clear hK K)
              refine AX.gcall [0, 1] rfl rfl (a8) (by simp only [go_sem, reduceCtorEq]) (by simp only [go_sem, reduceCtorEq]) rfl rfl (by simp only [go_sem, Obj.owns]) rfl (by simp only [go_sem, Obj.owns]) rfl rfl ?_
              simp only [go_sem, reduceCtorEq]
              repeat' (first | refine W.seq fun K hK => ?_ | refine W.block ?_ | ((first | refine wR ?_ | refine wD ?_ | refine W.skip ?_ | refine W.exit ?_ | refine W.ret (Post.ret ?_) | refine aP ?_ | refine aF ?_ | refine aL ?_ | refine aU (hnn := by simp only [go_sem, reduceCtorEq, hw]) ?_ | refine aM ?_ | refine aN ?_ | refine aR ?_); simp only [go_sem, reduceCtorEq, hw]) | refine wT ?_ | refine wF ?_ | refine wC (fun h => ?_) (fun h => ?_) | refine iK ?_ | refine aI2 ?_ | (refine hK _ ?_; clear hK K) | clear hK K)
              refine hKL.to (i + 1, some (k, e)) ⟨by simp only; omega, by simp only; rw [hstep, hs2], hoke⟩ (by simp only; omega) (Fits.fit [(0, 0), (1, 1), (2, 2), (3, 3), (4, 4), (5, 5)] [0, 6, 7, 8, 9, 10, 20, 21, 22] 6 rfl rfl ?_)
              simp only [go_sem, rnCs_chS, rnCs_chE, spA, evA, evOf, List.map, Option.isSome_none, Option.isSome_some, chS, chE]
              exact Fits.rfl
        clear hK hKL hs2 hstep a7
        cases A4 with
        | false =>
          simp only [Bool.false_eq_true, if_false] at he
          subst he
          repeat' (first | refine W.seq fun K hK => ?_ | refine W.block ?_ | ((first | refine wR ?_ | refine wD ?_ | refine W.skip ?_ | refine W.exit ?_ | refine W.ret (Post.ret ?_) | refine aP ?_ | refine aF ?_ | refine aL ?_ | refine aU ?_ | refine aM ?_ | refine aN ?_ | refine aR ?_); simp only [go_sem, reduceCtorEq]) | refine wT ?_ | refine wF ?_ | refine wC (fun h => ?_) (fun h => ?_) | refine iK ?_ | refine aI2 ?_ | (refine hK _ ?_; clear hK K) | clear hK K)
          refine hK8 _ (Fits.fit [(0, 0), (1, 1), (2, 2), (3, 3), (4, 4), (5, 5), (6, 6), (8, 7)] [0, 6, 7, 8, 9, 10, 12, 13, 20, 21, 22] 8 rfl rfl ?_)
          simp only [go_sem, rnCs_chS, rnCs_chE, spA, evA, evOf, List.map]
          exact Fits.rfl
        | true =>
          simp only [if_true] at he
          subst he
          repeat' (first | refine W.seq fun K hK => ?_ | refine W.block ?_ | ((first | refine wR ?_ | refine wD ?_ | refine W.skip ?_ | refine W.exit ?_ | refine W.ret (Post.ret ?_) | refine aP ?_ | refine aF ?_ | refine aL ?_ | refine aU ?_ | refine aM ?_ | refine aN ?_ | refine aR ?_); simp only [go_sem, reduceCtorEq]) | refine wT ?_ | refine wF ?_ | refine wC (fun h => ?_) (fun h => ?_) | refine iK ?_ | refine aI2 ?_ | (refine hK _ ?_; clear hK K) | clear hK K)
          refine hK8 _ (Fits.fit [(0, 0), (1, 1), (2, 2), (3, 3), (4, 4), (5, 5), (6, 6), (8, 7)] [0, 6, 7, 8, 9, 10, 12, 13, 20, 21, 22] 8 rfl rfl ?_)
          simp only [go_sem, rnCs_chS, rnCs_chE, spA, evA, evOf, List.map]
          exact Fits.rfl
      clear hKL hs2 hK
      simp only [spA, evA, evOf, List.map, List.cons_append, List.nil_append]
      repeat' (first | refine W.seq fun K hK => ?_ | refine W.block ?_ | ((first | refine wR ?_ | refine wD ?_ | refine W.skip ?_ | refine W.exit ?_ | refine W.ret (Post.ret ?_) | refine aP ?_ | refine aF ?_ | refine aL ?_ | refine aU ?_ | refine aM ?_ | refine aN ?_ | refine aR ?_); simp only [go_sem, reduceCtorEq]) | refine wT ?_ | refine wF ?_ | refine wC (fun h => ?_) (fun h => ?_) | refine iK ?_ | refine aI2 ?_ | (refine hK _ ?_; clear hK K) | clear hK K)
      refine AX.gcall [0, 1] rfl rfl (a1) (by simp only [go_sem, reduceCtorEq]) (by simp only [go_sem, reduceCtorEq]) rfl rfl (by simp only [go_sem, Obj.owns]) rfl (by simp only [go_sem, Obj.owns]) rfl rfl ?_
      simp only [go_sem, reduceCtorEq]
      repeat' (first | refine W.seq fun K hK => ?_ | refine W.block ?_ | ((first | refine wR ?_ | refine wD ?_ | refine W.skip ?_ | refine W.exit ?_ | refine W.ret (Post.ret ?_) | refine aP ?_ | refine aF ?_ | refine aL ?_ | refine aU ?_ | refine aM ?_ | refine aN ?_ | refine aR ?_); simp only [go_sem, reduceCtorEq]) | refine wT ?_ | refine wF ?_ | refine wC (fun h => ?_) (fun h => ?_) | refine iK ?_ | refine aI2 ?_ | (refine hK _ ?_; clear hK K) | clear hK K)
      refine AX.gcall [0, 1] rfl rfl (a2) (by simp only [go_sem, reduceCtorEq]) (by simp only [go_sem, reduceCtorEq]) rfl rfl (by simp only [go_sem, Obj.owns]) rfl (by simp only [go_sem, Obj.owns]) rfl rfl ?_
      simp only [go_sem, reduceCtorEq]
      repeat' (first | refine W.seq fun K hK => ?_ | refine W.block ?_ | ((first | refine wR ?_ | refine wD ?_ | refine W.skip ?_ | refine W.exit ?_ | refine W.ret (Post.ret ?_) | refine aP ?_ | refine aF ?_ | refine aL ?_ | refine aU ?_ | refine aM ?_ | refine aN ?_ | refine aR ?_); simp only [go_sem, reduceCtorEq]) | refine wT ?_ | refine wF ?_ | refine wC (fun h => ?_) (fun h => ?_) | refine iK ?_ | refine aI2 ?_ | (refine hK _ ?_; clear hK K) | clear hK K)
      refine AX.gcall [0, 1] rfl rfl (a3) (by simp only [go_sem, reduceCtorEq]) (by simp only [go_sem, reduceCtorEq]) rfl rfl (by simp only [go_sem, Obj.owns]) rfl (by simp only [go_sem, Obj.owns]) rfl rfl ?_
      simp only [go_sem, reduceCtorEq]
      repeat' (first | refine W.seq fun K hK => ?_ | refine W.block ?_ | ((first | refine wR ?_ | refine wD ?_ | refine W.skip ?_ | refine W.exit ?_ | refine W.ret (Post.ret ?_) | refine aP ?_ | refine aF ?_ | refine aL ?_ | refine aU ?_ | refine aM ?_ | refine aN ?_ | refine aR ?_); simp only [go_sem, reduceCtorEq]) | refine wT ?_ | refine wF ?_ | refine wC (fun h => ?_) (fun h => ?_) | refine iK ?_ | refine aI2 ?_ | (refine hK _ ?_; clear hK K) | clear hK K)
      refine hKT _ (Fits.fit [(0, 0), (1, 1), (2, 2), (3, 3), (4, 4), (5, 5), (6, 6)] [0, 6, 7, 8, 9, 10, 12, 20, 21, 22, 48] 7 rfl rfl ?_)
      simp only [go_sem, rnCs_chS, rnCs_chE, spA, evA, evOf, List.map]
      exact Fits.rfl
    · obtain rfl : i = L.length := by omega
      rw [List.take_length] at hacc
      have e1 : decide ((L.length : Int) < L.length) = false := by simp
      have hfin : chooseF bf ((getK m s.id).getD []) lo cur = acc := by rw [← hL]; exact hacc.symm
      clear hKL hacc ca hg
      cases acc with
      | none =>
        simp only [chT, chS, chE, zSpn, Option.isSome_none]
        repeat' (first | refine W.seq fun K hK => ?_ | refine W.block ?_ | ((first | refine wR ?_ | refine wD ?_ | refine W.skip ?_ | refine W.exit ?_ | refine W.ret (Post.ret ?_) | refine aP ?_ | refine aF ?_ | refine aL ?_ | refine aU (hnn := by simp only [go_sem, reduceCtorEq, e1]) ?_ | refine aM ?_ | refine aN ?_ | refine aR ?_); simp only [go_sem, reduceCtorEq, e1]) | refine wT ?_ | refine wF ?_ | refine wC (fun h => ?_) (fun h => ?_) | refine iK ?_ | refine aI2 ?_ | (refine hK _ ?_; clear hK K) | clear hK K)
        refine W.ret (PostG.ret (r := chT none) (Fits.fit [(0, 0), (1, 1), (4, 2), (5, 3)] [8, 9, 10] 4 rfl rfl Fits.rfl) ?_ rfl ?_)
        · simp only [St.resG, St.resGL, St.resG1, go_sem, chT, chS, chE, zSpn, spA, evA, List.map, Option.isSome_none, Option.isSome_some]
        simp only [St.r, go_sem, hfin, chT, chS, chE, zSpn, spA, evA, List.map, Option.isSome_none, Option.isSome_some]
      | some y =>
        obtain ⟨z, v⟩ := y
        simp only [chT, chS, chE, spA, evA, List.map, Option.isSome_some]
        repeat' (first | refine W.seq fun K hK => ?_ | refine W.block ?_ | ((first | refine wR ?_ | refine wD ?_ | refine W.skip ?_ | refine W.exit ?_ | refine W.ret (Post.ret ?_) | refine aP ?_ | refine aF ?_ | refine aL ?_ | refine aU (hnn := by simp only [go_sem, reduceCtorEq, e1]) ?_ | refine aM ?_ | refine aN ?_ | refine aR ?_); simp only [go_sem, reduceCtorEq, e1]) | refine wT ?_ | refine wF ?_ | refine wC (fun h => ?_) (fun h => ?_) | refine iK ?_ | refine aI2 ?_ | (refine hK _ ?_; clear hK K) | clear hK K)
        refine W.ret (PostG.ret (r := chT (some (z, v))) (Fits.fit [(0, 0), (1, 1), (4, 2), (5, 3)] [8, 9, 10] 4 rfl rfl Fits.rfl) ?_ rfl ?_)
        · simp only [St.resG, St.resGL, St.resG1, go_sem, chT, chS, chE, zSpn, spA, evA, List.map, Option.isSome_none, Option.isSome_some]
        simp only [St.r, go_sem, hfin, chT, chS, chE, zSpn, spA, evA, List.map, Option.isSome_none, Option.isSome_some]
  clear hK
  cases hgk : getK m s.id with
  | none =>
    rw [hgk] at hg hL
    simp only [Option.getD_none, Option.map_none] at hg hL
    subst hL
    repeat' (first | refine W.seq fun K hK => ?_ | refine W.block ?_ | ((first | refine wR ?_ | refine wD ?_ | refine W.skip ?_ | refine W.exit ?_ | refine W.ret (Post.ret ?_) | refine aP ?_ | refine aF ?_ | refine aL ?_ | refine aU (hnn := by simp only [go_sem, reduceCtorEq, hg]) ?_ | refine aM ?_ | refine aN ?_ | refine aR ?_); simp only [go_sem, reduceCtorEq, hg]) | refine wT ?_ | refine wF ?_ | refine wC (fun h => ?_) (fun h => ?_) | refine iK ?_ | refine aI2 ?_ | (refine hK _ ?_; clear hK K) | clear hK K)
    refine hK2 _ ?_
    refine Fits.nilSl 20 36 rfl ?_
    refine Fits.fit [(0, 0), (1, 1), (3, 2), (4, 3), (5, 4), (6, 5)] [0, 6, 7, 8, 9, 10, 20, 21, 22] 6 rfl rfl ?_
    simp only [go_sem, evA, List.map, zSpn, chE, List.length_nil]
    exact Fits.rfl
  | some l =>
    rw [hgk] at hg hL
    simp only [Option.getD_some, Option.map_some] at hg hL
    subst hL
    repeat' (first | refine W.seq fun K hK => ?_ | refine W.block ?_ | ((first | refine wR ?_ | refine wD ?_ | refine W.skip ?_ | refine W.exit ?_ | refine W.ret (Post.ret ?_) | refine aP ?_ | refine aF ?_ | refine aL ?_ | refine aU (hnn := by simp only [go_sem, reduceCtorEq, hg, List.length_map]) ?_ | refine aM ?_ | refine aN ?_ | refine aR ?_); simp only [go_sem, reduceCtorEq, hg, List.length_map]) | refine wT ?_ | refine wF ?_ | refine wC (fun h => ?_) (fun h => ?_) | refine iK ?_ | refine aI2 ?_ | (refine hK _ ?_; clear hK K) | clear hK K)
    refine hK2 _ ?_
    refine Fits.fit [(0, 0), (1, 1), (3, 2), (4, 3), (5, 4), (6, 5)] [0, 6, 7, 8, 9, 10, 20, 21, 22] 6 rfl rfl ?_
    simp only [go_sem, evA, List.map, zSpn, chE]
    exact Fits.rfl
theorem choose_c (m : KM) (hI : ∀ y ∈ m, y.2.length ≤ 140737488355328) (F : Nat) (caps : List AV) (bf : Ev → Ev → Bool) (hbf : BfC F caps bf) (p : List Sg) (s : Spn) (lo cur : Ev) (hid : I64 s.id) (hlo : okE lo) (hcur : okE cur) (hkk : ∀ y ∈ m, ∀ z ∈ y.2, I64 z.tr ∧ I64 z.id) :
    GCall Tryz.prog 69 2 (St.g [.c (.ptr 0 0), spT s, evT lo, evT cur] (wkO m F caps p) 2) (St.r (chT (chooseF bf ((getK m s.id).getD []) lo cur)) (wkO m F caps p) 2) := by
  refine outF (choose0_c m hI F caps bf hbf p s lo cur hid hlo hcur hkk) ?_
  rintro ⟨P, w0, ok0, may, np, pblk⟩ rfl rfl
  generalize chooseF bf ((getK m s.id).getD []) lo cur = acc
  cases acc with
  | none =>
    simp only [St.r, chT, chS, chE, zSpn, Option.isSome_none]
    refine Fits.fit [(0, 0), (1, 1)] [0] 2 rfl rfl ?_
    simp only [go_sem]
    exact Fits.rfl
  | some y =>
    obtain ⟨z, v⟩ := y
    simp only [St.r, chT, chS, chE, spA, evA, List.map, Option.isSome_some]
    refine Fits.fit [(0, 0), (1, 1)] [0] 2 rfl rfl ?_
    simp only [go_sem]
    exact Fits.rfl
end Go.Proofs.YtaaflhmfhnfjhaaGreat
