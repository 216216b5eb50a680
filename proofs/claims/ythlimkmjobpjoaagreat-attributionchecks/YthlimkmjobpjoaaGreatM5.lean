import Derived.Test.YthlimkmjobpjoaaGreatM4
import Derived.Test.YthlimkmjobpjoaaGreatM3
import Derived.Test.YthlimkmjobpjoaaGreatM2
set_option linter.unusedVariables false
set_option linter.unusedSimpArgs false
set_option maxHeartbeats 8000000
set_option maxRecDepth 100000
namespace Go.Proofs.YthlimkmjobpjoaaGreat
open Go.RowKit Go.Exe
/-! ### events, segments, offsets -/
structure Ev where
  tr : Int
  id : Int
  en : Bool
  deriving DecidableEq
structure Sg where
  sp : Rf
  fr : Ev
  to : Ev
  deriving DecidableEq
abbrev Of := Int × Int
def evA (x : Ev) : List AV := [.flat (.int .i64 x.tr), .flat (.int .i64 x.id), .flat (.bool x.en)]
abbrev evT (x : Ev) : TV := .g ((evA x).map .im)
def sgA (x : Sg) : List AV := [.flat (.int .i64 x.sp.1), .flat (.int .i64 x.sp.2), .flat (.int .i64 x.fr.tr), .flat (.int .i64 x.fr.id), .flat (.bool x.fr.en), .flat (.int .i64 x.to.tr), .flat (.int .i64 x.to.id), .flat (.bool x.to.en)]
abbrev sgsT (l : List Sg) : TV := .c (.im (.sl 118 (l.map sgA)))
def ofA (x : Of) : List AV := [.flat (.int .i64 x.1), .flat (.int .i64 x.2)]
abbrev ofsT (l : List Of) : TV := .c (.im (.sl 85 (l.map ofA)))
def evOf (s : Spn) (e : Bool) : Ev := ⟨s.tr, s.id, e⟩
def atS (s : Spn) (e : Bool) : Int := if e then s.en else s.st
/-- The map from clocks to offsets: the last one of a clock counts. -/
def putO (m : List Of) (x : Of) : List Of := match m with
  | [] => [x]
  | y :: r => if y.1 = x.1 then x :: r else y :: putO r x
def offM (v : List Of) : List Of := v.foldl putO []
def getO (m : List Of) (k : Int) : Option Int := match m with
  | [] => none
  | y :: r => if y.1 = k then some y.2 else getO r k
def ofE (m : List Of) : List (Value × Bool × List Cell) := m.map fun x => (.int .i64 x.1, false, [fl (.int .i64 x.2)])
def ofEA (m : List Of) : List (Value × Bool × List AV) := m.map fun x => (.int .i64 x.1, false, [.flat (.int .i64 x.2)])
theorem ofE_close (m : List Of) : closeE (ofE m) = some (ofEA m) := closeE_map _ _ (fun x => ⟨rfl, rfl, by simp [closeL, closeC]⟩) m
theorem rnEs_ofE (r : Ren) (m : List Of) : rnEs r (ofE m) = ofE m := rnEs_map r _ (fun _ => rfl) _
theorem ofE_put (m : List Of) (k n : Int) : mput (.int .i64 k) (false, [fl (.int .i64 n)]) (ofE m) = ofE (putO m (k, n)) := by
  induction m with
  | nil => rfl
  | cons y r ih =>
    simp only [ofE, List.map_cons, mput, putO] at ih ⊢
    by_cases h : y.1 = k
    · simp [h]
    · have : ¬ (Value.int IntKind.i64 y.1 = Value.int .i64 k) := by simpa using h
      simp [h, ih]
theorem ofE_mget (k : Int) : ∀ m : List Of, mget (.int .i64 k) (ofE m) = (getO m k).map fun n => (false, [fl (.int .i64 n)])
  | [] => rfl
  | y :: r => by
    have ih := ofE_mget k r
    simp only [ofE, List.map_cons, mget, getO] at ih ⊢
    by_cases h : y.1 = k
    · simp [h]
    · simp [h, ih]
theorem froE_of (m : List Of) : froE (ofEA m) = ofE m := by
  rw [froE_map]; simp [ofEA, ofE, imL]
/-- The value of a clock's offset, 0 where it has none. -/
def offK (v : List Of) (k : Int) : Int := (getO (offM v) k).getD 0
abbrev ofmT (v : List Of) : TV := .c (.im (.mp 3 (ofEA (offM v))))
attribute [local irreducible] W AX Run RunD AStep AOp AOpX AStB AStH AStG Fits PCall GCall PostG Post Stop
theorem event_c (s : Spn) (e : Bool) : PCall Tryz.prog 88 [spT s, ft (.bool e)] (evT (evOf s e)) := by
  have c1 := refOf_c s
  simp only [spT, spA, refA, evA, evOf, List.map] at c1 ⊢
  refine PCall.intro (nt := 9) (rs := [.cell 4 116]) Tryz.func88 rfl ⟨by kernel_rfl, by kernel_rfl, by kernel_rfl⟩ (by simp) ?_
  rintro ⟨P, w0, ok0, may, np, pblk⟩ rfl rfl
  repeat' (first | refine W.seq fun K hK => ?_ | refine W.block ?_ | ((first | refine wR ?_ | refine wD ?_ | refine W.skip ?_ | refine W.exit ?_ | refine W.ret (Post.ret ?_) | refine aP ?_ | refine aF ?_ | refine aL ?_ | refine aU ?_ | refine aM ?_ | refine aN ?_ | refine aR ?_ | refine aD ?_); simp only [go_sem, reduceCtorEq]) | refine wT ?_ | refine wF ?_ | refine wC (fun h => ?_) (fun h => ?_) | refine iK ?_ | refine aI2 ?_ | (refine hK _ ?_; clear hK K) | clear hK K)
  rfl
theorem at_c0 (s : Spn) (e : Bool) : PCall Tryz.prog 113 [spT s, ft (.bool e)] (ft (.int .i64 (atS s e))) := by
  simp only [spT, spA, List.map]
  cases e
  all_goals
    simp only [atS, Bool.false_eq_true, if_true, if_false]
    refine PCall.intro (nt := 10) (rs := [.tmp 4]) Tryz.func113 rfl ⟨by kernel_rfl, by kernel_rfl, by kernel_rfl⟩ (by simp) ?_
    rintro ⟨P, w0, ok0, may, np, pblk⟩ rfl rfl
    repeat' (first | refine W.seq fun K hK => ?_ | refine W.block ?_ | ((first | refine wR ?_ | refine wD ?_ | refine W.skip ?_ | refine W.exit ?_ | refine W.ret (Post.ret ?_) | refine aP ?_ | refine aF ?_ | refine aL ?_ | refine aU ?_ | refine aM ?_ | refine aN ?_ | refine aR ?_ | refine aD ?_); simp only [go_sem, reduceCtorEq]) | refine wT ?_ | refine wF ?_ | refine wC (fun h => ?_) (fun h => ?_) | refine iK ?_ | refine aI2 ?_ | (refine hK _ ?_; clear hK K) | clear hK K)
theorem blocks_c (s : Spn) : PCall Tryz.prog 98 [spT s] (ft (.bool (s.kd != 5))) := by
  simp only [spT, spA, List.map]
  refine PCall.intro (nt := 6) (rs := [.tmp 2]) Tryz.func98 rfl ⟨by kernel_rfl, by kernel_rfl, by kernel_rfl⟩ (by simp) ?_
  rintro ⟨P, w0, ok0, may, np, pblk⟩ rfl rfl
  repeat' (first | refine W.seq fun K hK => ?_ | refine W.block ?_ | ((first | refine wR ?_ | refine wD ?_ | refine W.skip ?_ | refine W.exit ?_ | refine W.ret (Post.ret ?_) | refine aP ?_ | refine aF ?_ | refine aL ?_ | refine aU ?_ | refine aM ?_ | refine aN ?_ | refine aR ?_ | refine aD ?_); simp only [go_sem, reduceCtorEq]) | refine wT ?_ | refine wF ?_ | refine wC (fun h => ?_) (fun h => ?_) | refine iK ?_ | refine aI2 ?_ | (refine hK _ ?_; clear hK K) | clear hK K)
theorem offsets_c (v : List Of) (hI : ∀ x ∈ v, I64 x.1) : PCall Tryz.prog 86 [ofsT v] (ofmT v) := by
  refine PCall.intro (nt := 20) (rs := [.tmp 2]) Tryz.func86 rfl ⟨by kernel_rfl, by kernel_rfl, by kernel_rfl⟩ (by simp) ?_
  rintro ⟨P, w0, ok0, may, np, pblk⟩ rfl rfl
  refine W.lenB 0 rfl tE85 fun hb0 hb => ?_
  rw [List.length_map] at hb
  repeat' (first | refine W.seq fun K hK => ?_ | refine W.block ?_ | ((first | refine wR ?_ | refine wD ?_ | refine W.skip ?_ | refine W.exit ?_ | refine W.ret (Post.ret ?_) | refine aP ?_ | refine aF ?_ | refine aL ?_ | refine aU ?_ | refine aM ?_ | refine aN ?_ | refine aR ?_ | refine aD ?_); simp only [go_sem, reduceCtorEq]) | refine wT ?_ | refine wF ?_ | refine wC (fun h => ?_) (fun h => ?_) | refine iK ?_ | refine aI2 ?_ | (refine hK _ ?_; clear hK K) | clear hK K)
  refine W.loopF (T := fun i : Nat => { t := [(3, .c (.mp 0)), (7, ofsT v), (8, ft (.int .i64 v.length)), (9, ft (.int .i64 (i : Nat)))], h := [(0, .map 3 (ofE (offM (v.take i))))], nx := 1, ex := [], nt := 20 })
    (Inv := fun i => i ≤ v.length) (μ := fun i => v.length - i) (x0 := 0) (Fits.fit [(1, 0)] [3, 7, 8, 9] 1 rfl rfl ?_) (Nat.zero_le _) ?_
  · simp only [go_sem, List.take_zero, offM, List.foldl_nil, ofE, List.map_nil, List.length_map]
    exact Fits.rfl
  rintro i hi KL hKL
  by_cases hlt : i < v.length
  · obtain ⟨x, hx, hm, hd⟩ := drop_at hlt
    have e1 : decide ((i : Int) < v.length) = true := by simp; omega
    have hw := w64s i (by omega)
    have hko := koI (hI x hm)
    have hat : offM (v.take (i + 1)) = putO (offM (v.take i)) x := by simp [offM, List.take_add_one, hx]
    have hput := ofE_put (offM (v.take i)) x.1 x.2
    have hno := ofE_mget x.1 (offM (v.take i))
    have hcs : mget (.int .i64 x.1) (ofE (offM (v.take i))) = none ∨ ∃ n, mget (.int .i64 x.1) (ofE (offM (v.take i))) = some (false, [fl (.int .i64 n)]) := by
      rw [hno]
      cases getO (offM (v.take i)) x.1
      · exact .inl rfl
      · exact .inr ⟨_, rfl⟩
    clear hno
    rcases hcs with hno | ⟨n, hno⟩
    all_goals
      repeat' (first | refine W.seq fun K hK => ?_ | refine W.block ?_ | ((first | refine wR ?_ | refine wD ?_ | refine W.skip ?_ | refine W.exit ?_ | refine W.ret (Post.ret ?_) | refine aP ?_ | refine aF ?_ | refine aL ?_ | refine aU (hnn := by simp only [go_sem, reduceCtorEq, List.getElem?_map, hx, ofA, e1, hw, hput, hno]) ?_ | refine aM ?_ | refine aN ?_ | refine aR ?_ | refine aD ?_); simp only [go_sem, reduceCtorEq, List.getElem?_map, hx, ofA, e1, hw, hput, hno]) | refine wT ?_ | refine wF ?_ | refine wC (fun h => ?_) (fun h => ?_) | refine iK ?_ | refine aI2 ?_ | (refine hK _ ?_; clear hK K) | clear hK K)
    all_goals refine hKL.to (i + 1) (by omega) (by omega) (Fits.fit [(0, 0)] [3, 7, 8, 9] 1 rfl rfl ?_)
    all_goals simp only [go_sem, rnEs_ofE, hat]
    all_goals exact Fits.rfl
  · obtain rfl : i = v.length := by omega
    have e1 : decide ((v.length : Int) < v.length) = false := by simp
    clear hKL
    repeat' (first | refine W.stop (id := 7) ?_ | refine W.seq fun K hK => ?_ | refine W.block ?_ | ((first | refine wR ?_ | refine wD ?_ | refine W.skip ?_ | refine W.exit ?_ | refine W.ret (Post.ret ?_) | refine aP ?_ | refine aF ?_ | refine aL ?_ | refine aU (hnn := by simp only [go_sem, reduceCtorEq, e1]) ?_ | refine aM ?_ | refine aN ?_ | refine aR ?_ | refine aD ?_); simp only [go_sem, reduceCtorEq, e1]) | refine wT ?_ | refine wF ?_ | refine wC (fun h => ?_) (fun h => ?_) | refine iK ?_ | refine aI2 ?_ | (refine hK _ ?_; clear hK K) | clear hK K)
    refine Stop.out ?_
    refine W.fits (Fits.freezeM 0 rfl (ofE_close _) Fits.rfl) ?_
    simp only [go_sem]
    repeat' (first | refine W.seq fun K hK => ?_ | refine W.block ?_ | ((first | refine wR ?_ | refine wD ?_ | refine W.skip ?_ | refine W.exit ?_ | refine W.ret (Post.ret ?_) | refine aP ?_ | refine aF ?_ | refine aL ?_ | refine aU ?_ | refine aM ?_ | refine aN ?_ | refine aR ?_ | refine aD ?_); simp only [go_sem, reduceCtorEq]) | refine wT ?_ | refine wF ?_ | refine wC (fun h => ?_) (fun h => ?_) | refine iK ?_ | refine aI2 ?_ | (refine hK _ ?_; clear hK K) | clear hK K)
    rw [List.take_length]
theorem at_c (s : Spn) (e : Bool) (v : List Of) (hc : I64 s.clk) : PCall Tryz.prog 87 [spT s, ft (.bool e), ofmT v] (ft (.int .i64 (IntKind.i64.wrap (atS s e - offK v s.clk)))) := by
  have c1 := at_c0 s e
  have hko := koI hc
  have hg := ofE_mget s.clk (offM v)
  rw [← froE_of] at hg
  have hz : offK v s.clk = (getO (offM v) s.clk).getD 0 := rfl
  simp only [spT, spA, List.map] at c1 ⊢
  refine PCall.intro (nt := 15) (rs := [.tmp 6]) Tryz.func87 rfl ⟨by kernel_rfl, by kernel_rfl, by kernel_rfl⟩ (by simp) ?_
  rintro ⟨P, w0, ok0, may, np, pblk⟩ rfl rfl
  cases h : getO (offM v) s.clk with
  | none =>
    rw [h] at hg hz
    simp only [Option.map_none, Option.getD_none] at hg hz
    repeat' (first | refine W.seq fun K hK => ?_ | refine W.block ?_ | ((first | refine wR ?_ | refine wD ?_ | refine W.skip ?_ | refine W.exit ?_ | refine W.ret (Post.ret ?_) | refine aP ?_ | refine aF ?_ | refine aL ?_ | refine aU (hnn := by simp only [go_sem, reduceCtorEq, hg, hz]) ?_ | refine aM ?_ | refine aN ?_ | refine aR ?_ | refine aD ?_); simp only [go_sem, reduceCtorEq, hg, hz]) | refine wT ?_ | refine wF ?_ | refine wC (fun h => ?_) (fun h => ?_) | refine iK ?_ | refine aI2 ?_ | (refine hK _ ?_; clear hK K) | clear hK K)
  | some n =>
    rw [h] at hg hz
    simp only [Option.map_some, Option.getD_some] at hg hz
    repeat' (first | refine W.seq fun K hK => ?_ | refine W.block ?_ | ((first | refine wR ?_ | refine wD ?_ | refine W.skip ?_ | refine W.exit ?_ | refine W.ret (Post.ret ?_) | refine aP ?_ | refine aF ?_ | refine aL ?_ | refine aU (hnn := by simp only [go_sem, reduceCtorEq, hg, hz]) ?_ | refine aM ?_ | refine aN ?_ | refine aR ?_ | refine aD ?_); simp only [go_sem, reduceCtorEq, hg, hz]) | refine wT ?_ | refine wF ?_ | refine wC (fun h => ?_) (fun h => ?_) | refine iK ?_ | refine aI2 ?_ | (refine hK _ ?_; clear hK K) | clear hK K)
end Go.Proofs.YthlimkmjobpjoaaGreat
namespace Go.Proofs.YthlimkmjobpjoaaGreat
open Go.RowKit Go.Exe
/-! ### the error of an assignment -/
def leAt (v : List Of) (n : Nat) : Bool := match v[n]?, v[n - 1]? with
  | some a, some b => decide (a.1 ≤ b.1)
  | _, _ => false
def ordN (v : List Of) : Nat → Bool
  | 0 => false
  | n + 1 => ordN v n || (decide (0 < n) && leAt v n)
theorem ordN_mono {v : List Of} {n : Nat} : ∀ {m : Nat}, n ≤ m → ordN v n = true → ordN v m = true
  | 0, h, h' => by obtain rfl : n = 0 := by omega
                   exact h'
  | m + 1, h, h' => by
    by_cases e : n = m + 1
    · subst e; exact h'
    · simp [ordN, ordN_mono (m := m) (by omega) h']
def rngB (x : Of) : Bool := decide (x.2 < -1099511627776) || decide (x.2 > 1099511627776)
def gapB (v : List Of) (s : Spn) : Bool := (getO (offM v) s.clk).isNone
def chkE (l : List Spn) (v : List Of) : Int := if ordN v v.length then 8 else if v.any rngB then 2 else if l.any (gapB v) then 34 else 0
attribute [local irreducible] W AX Run RunD AStep AOp AOpX AStB AStH AStG Fits PCall GCall PostG Post Stop
theorem check_c (l : List Spn) (v : List Of) (hl : ∀ s ∈ l, I64 s.clk) (hv : ∀ x ∈ v, I64 x.1) : PCall Tryz.prog 85 [spsT l, ofsT v] (ft (.int .i64 (chkE l v))) := by
  have c35 := offsets_c v hv
  refine PCall.intro (nt := 68) (rs := [.tmp 4]) Tryz.func85 rfl ⟨by kernel_rfl, by kernel_rfl, by kernel_rfl⟩ (by simp) ?_
  rintro ⟨P, w0, ok0, may, np, pblk⟩ rfl rfl
  refine W.lenB 0 rfl tE42 fun hl0 hl1 => ?_
  refine W.lenB 1 rfl tE85 fun hv0 hv1 => ?_
  rw [List.length_map] at hl1 hv1
  repeat' (first | refine W.seq fun K hK => ?_ | refine W.block ?_ | ((first | refine wR ?_ | refine wD ?_ | refine W.skip ?_ | refine W.exit ?_ | refine W.ret (Post.ret ?_) | refine aP ?_ | refine aF ?_ | refine aL ?_ | refine aU ?_ | refine aM ?_ | refine aN ?_ | refine aR ?_ | refine aD ?_); simp only [go_sem, reduceCtorEq]) | refine wT ?_ | refine wF ?_ | refine wC (fun h => ?_) (fun h => ?_) | refine iK ?_ | refine aI2 ?_ | (refine hK _ ?_; clear hK K) | clear hK K)
  refine W.loopF (T := fun i : Nat => { t := [(0, spsT l), (1, ofsT v), (13, ofsT v), (14, ft (.int .i64 v.length)), (15, ft (.int .i64 (i : Nat)))], h := [], nx := 0, ex := [], nt := 68 })
    (Inv := fun i => i ≤ v.length ∧ ordN v i = false) (μ := fun i => v.length - i) (x0 := 0) (Fits.fit [] [0, 1, 13, 14, 15] 0 rfl rfl ?_) ⟨Nat.zero_le _, rfl⟩ ?_
  · simp only [go_sem, List.length_map]
    exact Fits.rfl
  rintro i ⟨hi, hinv⟩ KL hKL
  by_cases hlt : i < v.length
  · obtain ⟨x, hx, hm, hd⟩ := drop_at hlt
    have e1 : decide ((i : Int) < v.length) = true := by simp; omega
    have hw := w64s i (by omega)
    clear c35
    rcases i with _ | m
    · have e2 : decide (((0 : Nat) : Int) > 0) = false := by simp
      repeat' (first | refine W.seq fun K hK => ?_ | refine W.block ?_ | ((first | refine wR ?_ | refine wD ?_ | refine W.skip ?_ | refine W.exit ?_ | refine W.ret (Post.ret ?_) | refine aP ?_ | refine aF ?_ | refine aL ?_ | refine aU (hnn := by simp only [go_sem, reduceCtorEq, List.getElem?_map, hx, ofA, e1, hw, e2]) ?_ | refine aM ?_ | refine aN ?_ | refine aR ?_ | refine aD ?_); simp only [go_sem, reduceCtorEq, List.getElem?_map, hx, ofA, e1, hw, e2]) | refine wT ?_ | refine wF ?_ | refine wC (fun h => ?_) (fun h => ?_) | refine iK ?_ | refine aI2 ?_ | (refine hK _ ?_; clear hK K) | clear hK K)
      refine hKL.to 1 ⟨by omega, by simp [ordN]⟩ (by omega) (Fits.fit [] [0, 1, 13, 14, 15] 0 rfl rfl ?_)
      simp only [go_sem]
      exact Fits.rfl
    · have e2 : decide (((m + 1 : Nat) : Int) > 0) = true := by simp
      have e3 : IntKind.i64.wrap (((m + 1 : Nat) : Int) - 1) = (m : Int) := by rw [w64 (by omega) (by omega)]; omega
      obtain ⟨y, hy, hym, _⟩ := drop_at (show m < v.length by omega)
      have hst : ordN v (m + 1 + 1) = decide (x.1 ≤ y.1) := by
        rw [ordN, hinv]
        simp [leAt, hx, hy]
      cases hc : decide (x.1 ≤ y.1)
      · repeat' (first | refine W.seq fun K hK => ?_ | refine W.block ?_ | ((first | refine wR ?_ | refine wD ?_ | refine W.skip ?_ | refine W.exit ?_ | refine W.ret (Post.ret ?_) | refine aP ?_ | refine aF ?_ | refine aL ?_ | refine aU (hnn := by simp only [go_sem, reduceCtorEq, List.getElem?_map, hx, hy, ofA, e1, hw, e2, e3, hc]) ?_ | refine aM ?_ | refine aN ?_ | refine aR ?_ | refine aD ?_); simp only [go_sem, reduceCtorEq, List.getElem?_map, hx, hy, ofA, e1, hw, e2, e3, hc]) | refine wT ?_ | refine wF ?_ | refine wC (fun h => ?_) (fun h => ?_) | refine iK ?_ | refine aI2 ?_ | (refine hK _ ?_; clear hK K) | clear hK K)
        refine hKL.to (m + 1 + 1) ⟨by omega, by rw [hst, hc]⟩ (by omega) (Fits.fit [] [0, 1, 13, 14, 15] 0 rfl rfl ?_)
        simp only [go_sem]
        exact Fits.rfl
      · have hE : chkE l v = 8 := by
          have := ordN_mono (v := v) (n := m + 1 + 1) (m := v.length) (by omega) (by rw [hst, hc])
          simp [chkE, this]
        clear hKL
        repeat' (first | refine W.seq fun K hK => ?_ | refine W.block ?_ | ((first | refine wR ?_ | refine wD ?_ | refine W.skip ?_ | refine W.exit ?_ | refine W.ret (Post.ret ?_) | refine aP ?_ | refine aF ?_ | refine aL ?_ | refine aU (hnn := by simp only [go_sem, reduceCtorEq, List.getElem?_map, hx, hy, ofA, e1, hw, e2, e3, hc, hE]) ?_ | refine aM ?_ | refine aN ?_ | refine aR ?_ | refine aD ?_); simp only [go_sem, reduceCtorEq, List.getElem?_map, hx, hy, ofA, e1, hw, e2, e3, hc, hE]) | refine wT ?_ | refine wF ?_ | refine wC (fun h => ?_) (fun h => ?_) | refine iK ?_ | refine aI2 ?_ | (refine hK _ ?_; clear hK K) | clear hK K)
  obtain rfl : i = v.length := by omega
  have e1 : decide ((v.length : Int) < v.length) = false := by simp
  clear hKL
  have hE0 : chkE l v = if v.any rngB then 2 else if l.any (gapB v) then 34 else 0 := by simp [chkE, hinv]
  repeat' (first | refine W.seq fun K hK => ?_ | refine W.block ?_ | ((first | refine wR ?_ | refine wD ?_ | refine W.skip ?_ | refine W.exit ?_ | refine W.ret (Post.ret ?_) | refine aP ?_ | refine aF ?_ | refine aL ?_ | refine aU (hnn := by simp only [go_sem, reduceCtorEq, e1, List.length_map]) ?_ | refine aM ?_ | refine aN ?_ | refine aR ?_ | refine aD ?_); simp only [go_sem, reduceCtorEq, e1, List.length_map]) | refine wT ?_ | refine wF ?_ | refine wC (fun h => ?_) (fun h => ?_) | refine iK ?_ | refine aI2 ?_ | (refine hK _ ?_; clear hK K) | clear hK K)
  refine W.loopF (T := fun i : Nat => { t := [(0, spsT l), (1, ofsT v), (35, ofsT v), (36, ft (.int .i64 v.length)), (37, ft (.int .i64 (i : Nat)))], h := [], nx := 0, ex := [], nt := 68 })
    (Inv := fun i => i ≤ v.length ∧ ∀ x ∈ v.take i, rngB x = false) (μ := fun i => v.length - i) (x0 := 0) (Fits.fit [] [0, 1, 35, 36, 37] 0 rfl rfl ?_) ⟨Nat.zero_le _, by simp⟩ ?_
  · simp only [go_sem]
    exact Fits.rfl
  clear hinv hi e1
  rintro i ⟨hi, hinv⟩ KL hKL
  by_cases hlt : i < v.length
  · obtain ⟨x, hx, hm, hd⟩ := drop_at hlt
    have e1 : decide ((i : Int) < v.length) = true := by simp; omega
    have hw := w64s i (by omega)
    have hnext : rngB x = false → ∀ y ∈ v.take (i + 1), rngB y = false := fun h y hy => by
      rw [List.take_add_one, hx] at hy
      rcases List.mem_append.1 hy with hy | hy
      · exact hinv y hy
      · simp at hy; subst hy; exact h
    have hyes : rngB x = true → chkE l v = 2 := fun h => by
      have : v.any rngB = true := List.any_eq_true.2 ⟨x, hm, h⟩
      rw [hE0, this]; rfl
    have hr : rngB x = (decide (x.2 < -1099511627776) || decide (x.2 > 1099511627776)) := rfl
    clear c35 hE0
    cases h1 : decide (x.2 < -1099511627776)
    · rw [h1, Bool.false_or] at hr
      cases h2 : decide (x.2 > 1099511627776)
      · rw [h2] at hr
        repeat' (first | refine W.seq fun K hK => ?_ | refine W.block ?_ | ((first | refine wR ?_ | refine wD ?_ | refine W.skip ?_ | refine W.exit ?_ | refine W.ret (Post.ret ?_) | refine aP ?_ | refine aF ?_ | refine aL ?_ | refine aU (hnn := by simp only [go_sem, reduceCtorEq, List.getElem?_map, hx, ofA, e1, hw, h1, h2]) ?_ | refine aM ?_ | refine aN ?_ | refine aR ?_ | refine aD ?_); simp only [go_sem, reduceCtorEq, List.getElem?_map, hx, ofA, e1, hw, h1, h2]) | refine wT ?_ | refine wF ?_ | refine wC (fun h => ?_) (fun h => ?_) | refine iK ?_ | refine aI2 ?_ | (refine hK _ ?_; clear hK K) | clear hK K)
        refine hKL.to (i + 1) ⟨by omega, hnext hr⟩ (by omega) (Fits.fit [] [0, 1, 35, 36, 37] 0 rfl rfl ?_)
        simp only [go_sem]
        exact Fits.rfl
      · rw [h2] at hr
        have hE := hyes hr
        clear hKL
        repeat' (first | refine W.seq fun K hK => ?_ | refine W.block ?_ | ((first | refine wR ?_ | refine wD ?_ | refine W.skip ?_ | refine W.exit ?_ | refine W.ret (Post.ret ?_) | refine aP ?_ | refine aF ?_ | refine aL ?_ | refine aU (hnn := by simp only [go_sem, reduceCtorEq, List.getElem?_map, hx, ofA, e1, hw, h1, h2, hE]) ?_ | refine aM ?_ | refine aN ?_ | refine aR ?_ | refine aD ?_); simp only [go_sem, reduceCtorEq, List.getElem?_map, hx, ofA, e1, hw, h1, h2, hE]) | refine wT ?_ | refine wF ?_ | refine wC (fun h => ?_) (fun h => ?_) | refine iK ?_ | refine aI2 ?_ | (refine hK _ ?_; clear hK K) | clear hK K)
    · rw [h1, Bool.true_or] at hr
      have hE := hyes hr
      clear hKL
      repeat' (first | refine W.seq fun K hK => ?_ | refine W.block ?_ | ((first | refine wR ?_ | refine wD ?_ | refine W.skip ?_ | refine W.exit ?_ | refine W.ret (Post.ret ?_) | refine aP ?_ | refine aF ?_ | refine aL ?_ | refine aU (hnn := by simp only [go_sem, reduceCtorEq, List.getElem?_map, hx, ofA, e1, hw, h1, hE]) ?_ | refine aM ?_ | refine aN ?_ | refine aR ?_ | refine aD ?_); simp only [go_sem, reduceCtorEq, List.getElem?_map, hx, ofA, e1, hw, h1, hE]) | refine wT ?_ | refine wF ?_ | refine wC (fun h => ?_) (fun h => ?_) | refine iK ?_ | refine aI2 ?_ | (refine hK _ ?_; clear hK K) | clear hK K)
  obtain rfl : i = v.length := by omega
  have e1 : decide ((v.length : Int) < v.length) = false := by simp
  clear hKL
  rw [List.take_length] at hinv
  have hE1 : chkE l v = if l.any (gapB v) then 34 else 0 := by
    have : v.any rngB = false := by
      rw [List.any_eq_false]
      exact fun x hx => by rw [hinv x hx]; simp
    rw [hE0, this]; rfl
  repeat' (first | refine W.seq fun K hK => ?_ | refine W.block ?_ | ((first | refine wR ?_ | refine wD ?_ | refine W.skip ?_ | refine W.exit ?_ | refine W.ret (Post.ret ?_) | refine aP ?_ | refine aF ?_ | refine aL ?_ | refine aU (hnn := by simp only [go_sem, reduceCtorEq, e1, List.length_map]) ?_ | refine aM ?_ | refine aN ?_ | refine aR ?_ | refine aD ?_); simp only [go_sem, reduceCtorEq, e1, List.length_map]) | refine wT ?_ | refine wF ?_ | refine wC (fun h => ?_) (fun h => ?_) | refine iK ?_ | refine aI2 ?_ | (refine hK _ ?_; clear hK K) | clear hK K)
  refine W.loopF (T := fun i : Nat => { t := [(8, ofmT v), (52, spsT l), (53, ft (.int .i64 l.length)), (54, ft (.int .i64 (i : Nat)))], h := [], nx := 0, ex := [], nt := 68 })
    (Inv := fun i => i ≤ l.length ∧ ∀ x ∈ l.take i, gapB v x = false) (μ := fun i => l.length - i) (x0 := 0) (Fits.fit [] [8, 52, 53, 54] 0 rfl rfl ?_) ⟨Nat.zero_le _, by simp⟩ ?_
  · simp only [go_sem, List.length_map]
    exact Fits.rfl
  clear hinv hi e1 c35 hE0
  rintro i ⟨hi, hinv⟩ KL hKL
  by_cases hlt : i < l.length
  · obtain ⟨x, hx, hm, hd⟩ := drop_at hlt
    have e1 : decide ((i : Int) < l.length) = true := by simp; omega
    have hw := w64s i (by omega)
    have hko := koI (hl x hm)
    have hg := ofE_mget x.clk (offM v)
    rw [← froE_of] at hg
    cases hgo : getO (offM v) x.clk with
    | none =>
      have hE : chkE l v = 34 := by
        have : l.any (gapB v) = true := List.any_eq_true.2 ⟨x, hm, by simp [gapB, hgo]⟩
        rw [hE1, this]; rfl
      rw [hgo, Option.map_none] at hg
      clear hKL
      repeat' (first | refine W.seq fun K hK => ?_ | refine W.block ?_ | ((first | refine wR ?_ | refine wD ?_ | refine W.skip ?_ | refine W.exit ?_ | refine W.ret (Post.ret ?_) | refine aP ?_ | refine aF ?_ | refine aL ?_ | refine aU (hnn := by simp only [go_sem, reduceCtorEq, List.getElem?_map, hx, spA, e1, hw, hg, hE]) ?_ | refine aM ?_ | refine aN ?_ | refine aR ?_ | refine aD ?_); simp only [go_sem, reduceCtorEq, List.getElem?_map, hx, spA, e1, hw, hg, hE]) | refine wT ?_ | refine wF ?_ | refine wC (fun h => ?_) (fun h => ?_) | refine iK ?_ | refine aI2 ?_ | (refine hK _ ?_; clear hK K) | clear hK K)
    | some n =>
      rw [hgo, Option.map_some] at hg
      repeat' (first | refine W.seq fun K hK => ?_ | refine W.block ?_ | ((first | refine wR ?_ | refine wD ?_ | refine W.skip ?_ | refine W.exit ?_ | refine W.ret (Post.ret ?_) | refine aP ?_ | refine aF ?_ | refine aL ?_ | refine aU (hnn := by simp only [go_sem, reduceCtorEq, List.getElem?_map, hx, spA, e1, hw, hg]) ?_ | refine aM ?_ | refine aN ?_ | refine aR ?_ | refine aD ?_); simp only [go_sem, reduceCtorEq, List.getElem?_map, hx, spA, e1, hw, hg]) | refine wT ?_ | refine wF ?_ | refine wC (fun h => ?_) (fun h => ?_) | refine iK ?_ | refine aI2 ?_ | (refine hK _ ?_; clear hK K) | clear hK K)
      refine hKL.to (i + 1) ⟨by omega, fun y hy => ?_⟩ (by omega) (Fits.fit [] [8, 52, 53, 54] 0 rfl rfl ?_)
      · rw [List.take_add_one, hx] at hy
        rcases List.mem_append.1 hy with hy | hy
        · exact hinv y hy
        · simp at hy; subst hy; simp [gapB, hgo]
      · simp only [go_sem]
        exact Fits.rfl
  obtain rfl : i = l.length := by omega
  have e1 : decide ((l.length : Int) < l.length) = false := by simp
  clear hKL
  rw [List.take_length] at hinv
  have hE : chkE l v = 0 := by
    have : l.any (gapB v) = false := by
      rw [List.any_eq_false]
      exact fun x hx => by rw [hinv x hx]; simp
    rw [hE1, this]; rfl
  repeat' (first | refine W.seq fun K hK => ?_ | refine W.block ?_ | ((first | refine wR ?_ | refine wD ?_ | refine W.skip ?_ | refine W.exit ?_ | refine W.ret (Post.ret ?_) | refine aP ?_ | refine aF ?_ | refine aL ?_ | refine aU (hnn := by simp only [go_sem, reduceCtorEq, e1, hE]) ?_ | refine aM ?_ | refine aN ?_ | refine aR ?_ | refine aD ?_); simp only [go_sem, reduceCtorEq, e1, hE]) | refine wT ?_ | refine wF ?_ | refine wC (fun h => ?_) (fun h => ?_) | refine iK ?_ | refine aI2 ?_ | (refine hK _ ?_; clear hK K) | clear hK K)
end Go.Proofs.YthlimkmjobpjoaaGreat
namespace Go.Proofs.YthlimkmjobpjoaaGreat
open Go.RowKit Go.Exe
/-! ### Time, Lengths, find, Contains -/
def spOfR (l : List Spn) (r : Rf) : Option Spn := l.find? fun s => s.tr == r.1 && s.id == r.2
/-- The time of an event: its span's local time less the offset. -/
def timE (l : List Spn) (v : List Of) (x : Ev) : Option Int := (spOfR l (x.tr, x.id)).map fun s => IntKind.i64.wrap (atS s x.en - offK v s.clk)
def timT (l : List Spn) (v : List Of) (x : Ev) : TV := if chkE l v ≠ 0 then .t [(false, [fl (.int .i64 0)]), (false, [fl (.int .i64 (chkE l v))])] else match timE l v x with
  | some n => .t [(false, [fl (.int .i64 n)]), (false, [fl (.int .i64 0)])]
  | none => .t [(false, [fl (.int .i64 0)]), (false, [fl (.int .i64 10)])]
attribute [local irreducible] W AX Run RunD AStep AOp AOpX AStB AStH AStG Fits PCall GCall PostG Post Stop
theorem time_c (l : List Spn) (v : List Of) (x : Ev) (hl : ∀ s ∈ l, I64 s.clk) (hv : ∀ x ∈ v, I64 x.1) : PCall Tryz.prog 91 [spsT l, ofsT v, evT x] (timT l v x) := by
  have c20 := check_c l v hl hv
  have c35 := offsets_c v hv
  simp only [evT, evA, List.map]
  by_cases h0 : chkE l v = 0
  rotate_left
  · have e0 : (chkE l v != 0) = true := by simp [h0]
    simp only [timT, if_pos h0]
    refine PCall.intro (nt := 35) (rs := [.tmp 6, .tmp 7]) Tryz.func91 rfl ⟨by kernel_rfl, by kernel_rfl, by kernel_rfl⟩ (by simp) ?_
    rintro ⟨P, w0, ok0, may, np, pblk⟩ rfl rfl
    repeat' (first | refine W.seq fun K hK => ?_ | refine W.block ?_ | ((first | refine wR ?_ | refine wD ?_ | refine W.skip ?_ | refine W.exit ?_ | refine W.ret (Post.ret ?_) | refine aP ?_ | refine aF ?_ | refine aL ?_ | refine aU (hnn := by simp only [go_sem, reduceCtorEq, e0]) ?_ | refine aM ?_ | refine aN ?_ | refine aR ?_ | refine aD ?_ | refine aE ?_); simp only [go_sem, reduceCtorEq, e0]) | refine wT ?_ | refine wF ?_ | refine wC (fun h => ?_) (fun h => ?_) | refine iK ?_ | refine aI2 ?_ | (refine hK _ ?_; clear hK K) | clear hK K)
  rw [h0] at c20
  have hT : timT l v x = match timE l v x with
    | some n => .t [(false, [fl (.int .i64 n)]), (false, [fl (.int .i64 0)])]
    | none => .t [(false, [fl (.int .i64 0)]), (false, [fl (.int .i64 10)])] := by simp [timT, h0]
  rw [hT]
  have hG := eqG56
  refine PCall.intro (nt := 35) (rs := [.tmp 6, .tmp 7]) Tryz.func91 rfl ⟨by kernel_rfl, by kernel_rfl, by kernel_rfl⟩ (by simp) ?_
  rintro ⟨P, w0, ok0, may, np, pblk⟩ rfl rfl
  refine W.lenB 0 rfl tE42 fun hl0 hl1 => ?_
  rw [List.length_map] at hl1
  repeat' (first | refine W.seq fun K hK => ?_ | refine W.block ?_ | ((first | refine wR ?_ | refine wD ?_ | refine W.skip ?_ | refine W.exit ?_ | refine W.ret (Post.ret ?_) | refine aP ?_ | refine aF ?_ | refine aL ?_ | refine aU ?_ | refine aM ?_ | refine aN ?_ | refine aR ?_ | refine aD ?_ | refine aE ?_); simp only [go_sem, reduceCtorEq]) | refine wT ?_ | refine wF ?_ | refine wC (fun h => ?_) (fun h => ?_) | refine iK ?_ | refine aI2 ?_ | (refine hK _ ?_; clear hK K) | clear hK K)
  refine W.loopF (T := fun i : Nat => { t := [(1, ofsT v), (5, .c (.ptr 0 0)), (6, ft (.int .i64 0)), (7, ft (.int .i64 0)), (17, spsT l), (18, ft (.int .i64 l.length)), (19, ft (.int .i64 (i : Nat)))], h := [(0, .box 116 [fl (.int .i64 x.tr), fl (.int .i64 x.id), fl (.bool x.en)])], nx := 1, ex := [], nt := 35 })
    (Inv := fun i => i ≤ l.length ∧ ∀ s ∈ l.take i, (s.tr == x.tr && s.id == x.id) = false) (μ := fun i => l.length - i) (x0 := 0) (Fits.fit [(0, 0)] [1, 5, 6, 7, 17, 18, 19] 1 rfl rfl ?_) ⟨Nat.zero_le _, by simp⟩ ?_
  · simp only [go_sem, List.length_map]
    exact Fits.rfl
  clear c20
  rintro i ⟨hi, hinv⟩ KL hKL
  by_cases hlt : i < l.length
  · obtain ⟨s, hx, hm, hd⟩ := drop_at hlt
    have e1 : decide ((i : Int) < l.length) = true := by simp; omega
    have hw := w64s i (by omega)
    have c46 := refOf_c s
    have hE := fun w => eqRef s.tr s.id x.tr x.id w
    simp only [spT, spA, refA, List.map] at c46
    cases hc : (s.tr == x.tr && s.id == x.id)
    · simp only [hc] at hE
      clear c35
      repeat' (first | refine W.seq fun K hK => ?_ | refine W.block ?_ | ((first | refine wR ?_ | refine wD ?_ | refine W.skip ?_ | refine W.exit ?_ | refine W.ret (Post.ret ?_) | refine aP ?_ | refine aF ?_ | refine aL ?_ | refine aU (hnn := by simp only [go_sem, reduceCtorEq, List.getElem?_map, hx, spA, e1, hw]) ?_ | refine aM ?_ | refine aN ?_ | refine aR ?_ | refine aD ?_ | refine aE ?_); simp only [go_sem, reduceCtorEq, List.getElem?_map, hx, spA, e1, hw]) | refine wT ?_ | refine wF ?_ | refine wC (fun h => ?_) (fun h => ?_) | refine iK ?_ | refine aI2 ?_ | (refine hK _ ?_; clear hK K) | clear hK K)
      refine hKL.to (i + 1) ⟨by omega, fun y hy => ?_⟩ (by omega) (Fits.fit [(0, 0)] [1, 5, 6, 7, 17, 18, 19] 1 rfl rfl ?_)
      · rw [List.take_add_one, hx] at hy
        rcases List.mem_append.1 hy with hy | hy
        · exact hinv y hy
        · simp at hy; subst hy; exact hc
      · simp only [go_sem]
        exact Fits.rfl
    · simp only [hc] at hE
      have hf : timE l v x = some (IntKind.i64.wrap (atS s x.en - offK v s.clk)) := by
        have : spOfR l (x.tr, x.id) = some s := by
          unfold spOfR
          rw [List.find?_eq_some_iff_getElem]
          obtain ⟨h1, h2⟩ := List.getElem?_eq_some_iff.1 hx
          refine ⟨hc, i, h1, h2, fun j hj => ?_⟩
          have := hinv l[j] (List.mem_of_getElem? (i := j) (by rw [List.getElem?_take, if_pos hj, List.getElem?_eq_getElem]))
          simp [this]
        simp [timE, this]
      have c36 := at_c s x.en v (hl s hm)
      simp only [spT, spA, List.map] at c36
      clear hKL
      repeat' (first | refine W.seq fun K hK => ?_ | refine W.block ?_ | ((first | refine wR ?_ | refine wD ?_ | refine W.skip ?_ | refine W.exit ?_ | refine W.ret (Post.ret ?_) | refine aP ?_ | refine aF ?_ | refine aL ?_ | refine aU (hnn := by simp only [go_sem, reduceCtorEq, List.getElem?_map, hx, spA, e1, hw, hf]) ?_ | refine aM ?_ | refine aN ?_ | refine aR ?_ | refine aD ?_ | refine aE ?_); simp only [go_sem, reduceCtorEq, List.getElem?_map, hx, spA, e1, hw, hf]) | refine wT ?_ | refine wF ?_ | refine wC (fun h => ?_) (fun h => ?_) | refine iK ?_ | refine aI2 ?_ | (refine hK _ ?_; clear hK K) | clear hK K)
  obtain rfl : i = l.length := by omega
  have e1 : decide ((l.length : Int) < l.length) = false := by simp
  rw [List.take_length] at hinv
  have hf : timE l v x = none := by
    have : spOfR l (x.tr, x.id) = none := by
      unfold spOfR
      rw [List.find?_eq_none]
      exact fun y hy => by simp [hinv y hy]
    simp [timE, this]
  clear hKL
  repeat' (first | refine W.seq fun K hK => ?_ | refine W.block ?_ | ((first | refine wR ?_ | refine wD ?_ | refine W.skip ?_ | refine W.exit ?_ | refine W.ret (Post.ret ?_) | refine aP ?_ | refine aF ?_ | refine aL ?_ | refine aU (hnn := by simp only [go_sem, reduceCtorEq, e1, hf]) ?_ | refine aM ?_ | refine aN ?_ | refine aR ?_ | refine aD ?_ | refine aE ?_); simp only [go_sem, reduceCtorEq, e1, hf]) | refine wT ?_ | refine wF ?_ | refine wC (fun h => ?_) (fun h => ?_) | refine iK ?_ | refine aI2 ?_ | (refine hK _ ?_; clear hK K) | clear hK K)
end Go.Proofs.YthlimkmjobpjoaaGreat
namespace Go.Proofs.YthlimkmjobpjoaaGreat
open Go.RowKit Go.Exe
theorem timT_n {l : List Spn} {v : List Of} {x : Ev} (h0 : chkE l v = 0) (h : timE l v x = none) : timT l v x = .t [(false, [fl (.int .i64 0)]), (false, [fl (.int .i64 10)])] := by simp [timT, h0, h]
theorem timT_s {l : List Spn} {v : List Of} {x : Ev} {n : Int} (h0 : chkE l v = 0) (h : timE l v x = some n) : timT l v x = .t [(false, [fl (.int .i64 n)]), (false, [fl (.int .i64 0)])] := by simp [timT, h0, h]
/-- The lengths of segments, if all their events have times. -/
def lenS (l : List Spn) (v : List Of) : List Sg → Option (List Int)
  | [] => some []
  | s :: r => match timE l v s.fr, timE l v s.to, lenS l v r with
    | some a, some b, some q => some (IntKind.i64.wrap (b - a) :: q)
    | _, _, _ => none
theorem lenS_snoc {l : List Spn} {v : List Of} {s : Sg} {a b : Int} (ha : timE l v s.fr = some a) (hb : timE l v s.to = some b) : ∀ {p : List Sg} {L : List Int}, lenS l v p = some L → lenS l v (p ++ [s]) = some (L ++ [IntKind.i64.wrap (b - a)])
  | [], L, h => by simp [lenS] at h; subst h; simp [lenS, ha, hb]
  | x :: p, L, h => by
    simp only [lenS] at h
    split at h
    · rename_i u w q h1 h2 h3
      cases h
      have := lenS_snoc ha hb h3
      simp [lenS, h1, h2, this]
    · cases h
theorem lenS_none {l : List Spn} {v : List Of} {s : Sg} (h : timE l v s.fr = none ∨ timE l v s.to = none) : ∀ {p : List Sg}, s ∈ p → lenS l v p = none
  | x :: p, hs => by
    rcases List.mem_cons.1 hs with rfl | hs
    · rcases h with h | h
      · simp [lenS, h]
      · simp only [lenS, h]; split <;> simp_all
    · have := lenS_none h hs
      simp only [lenS, this]; split <;> simp_all
theorem lenS_len {l : List Spn} {v : List Of} : ∀ {p : List Sg} {L : List Int}, lenS l v p = some L → L.length = p.length
  | [], L, h => by simp [lenS] at h; subst h; rfl
  | x :: p, L, h => by
    simp only [lenS] at h
    split at h
    · rename_i u w q h1 h2 h3
      cases h
      simp [lenS_len h3]
    · cases h
def nilT (e : Int) : TV := .t [(false, [fl (.slice none 0 0)]), (false, [fl (.int .i64 e)])]
def lenT (l : List Spn) (v : List Of) (p : List Sg) : TV := if chkE l v ≠ 0 then nilT (chkE l v) else match lenS l v p with
  | some L => .t [(false, [.im (.sl 3 (L.map iA))]), (false, [fl (.int .i64 0)])]
  | none => nilT 10
theorem snocI (L : List Int) (n : Int) : imR ((L ++ [n]).map iA) = imR (L.map iA) ++ [[.im (.flat (.int .i64 n))]] := by simp [imR, imL, iA]
attribute [local irreducible] W AX Run RunD AStep AOp AOpX AStB AStH AStG Fits PCall GCall PostG Post Stop
theorem lengths_c (l : List Spn) (v : List Of) (p : List Sg) (hl : ∀ s ∈ l, I64 s.clk) (hv : ∀ x ∈ v, I64 x.1) : PCall Tryz.prog 51 [spsT l, ofsT v, sgsT p] (lenT l v p) := by
  have c20 := check_c l v hl hv
  have c22 := fun x => time_c l v x hl hv
  by_cases h0 : chkE l v = 0
  rotate_left
  · have e0 : (chkE l v != 0) = true := by simp [h0]
    simp only [lenT, if_pos h0, nilT]
    clear c22
    refine PCall.intro (nt := 58) (rs := [.tmp 6, .tmp 7]) Tryz.func51 rfl ⟨by kernel_rfl, by kernel_rfl, by kernel_rfl⟩ (by simp) ?_
    rintro ⟨P, w0, ok0, may, np, pblk⟩ rfl rfl
    repeat' (first | refine W.seq fun K hK => ?_ | refine W.block ?_ | ((first | refine wR ?_ | refine wD ?_ | refine W.skip ?_ | refine W.exit ?_ | refine W.ret (Post.ret ?_) | refine aP ?_ | refine aF ?_ | refine aL ?_ | refine aU (hnn := by simp only [go_sem, reduceCtorEq, e0]) ?_ | refine aM ?_ | refine aN ?_ | refine aR ?_ | refine aD ?_); simp only [go_sem, reduceCtorEq, e0]) | refine wT ?_ | refine wF ?_ | refine wC (fun h => ?_) (fun h => ?_) | refine iK ?_ | refine aI2 ?_ | (refine hK _ ?_; clear hK K) | clear hK K)
  rw [h0] at c20
  refine PCall.intro (nt := 58) (rs := [.tmp 6, .tmp 7]) Tryz.func51 rfl ⟨by kernel_rfl, by kernel_rfl, by kernel_rfl⟩ (by simp) ?_
  rintro ⟨P, w0, ok0, may, np, pblk⟩ rfl rfl
  refine W.lenB 2 rfl tE118 fun hl0 hl1 => ?_
  rw [List.length_map] at hl1
  repeat' (first | refine W.seq fun K hK => ?_ | refine W.block ?_ | ((first | refine wR ?_ | refine wD ?_ | refine W.skip ?_ | refine W.exit ?_ | refine W.ret (Post.ret ?_) | refine aP ?_ | refine aF ?_ | refine aL ?_ | refine aU ?_ | refine aM ?_ | refine aN ?_ | refine aR ?_ | refine aD ?_); simp only [go_sem, reduceCtorEq]) | refine wT ?_ | refine wF ?_ | refine wC (fun h => ?_) (fun h => ?_) | refine iK ?_ | refine aI2 ?_ | (refine hK _ ?_; clear hK K) | clear hK K)
  refine W.loopF (T := fun x : Nat × List Int => { t := [(0, spsT l), (1, ofsT v), (6, ft (.slice none 0 0)), (7, ft (.int .i64 0)), (9, .c (.ref 0)), (22, sgsT p), (23, ft (.int .i64 p.length)), (24, ft (.int .i64 (x.1 : Nat)))], h := [(0, .row 3 (imR (x.2.map iA)))], nx := 1, ex := [], nt := 58 })
    (Inv := fun x => x.1 ≤ p.length ∧ lenS l v (p.take x.1) = some x.2) (μ := fun x => p.length - x.1) (x0 := (0, [])) ?_ ⟨Nat.zero_le _, rfl⟩ ?_
  · refine Fits.adopt 9 99 3 rfl rfl rfl tE3 rfl ?_
    refine Fits.fit [(99, 0)] [0, 1, 6, 7, 9, 22, 23, 24] 1 rfl rfl ?_
    simp only [go_sem, List.length_map, List.map_nil, imR_nil]
    exact Fits.rfl
  clear c20
  rintro ⟨i, L⟩ ⟨hi, hinv⟩ KL hKL
  dsimp only at hi hinv hKL ⊢
  by_cases hlt : i < p.length
  · obtain ⟨s, hx, hm, hd⟩ := drop_at hlt
    have e1 : decide ((i : Int) < p.length) = true := by simp; omega
    have hw := w64s i (by omega)
    have hLl := lenS_len hinv
    rw [List.length_take] at hLl
    have c1 := c22 s.fr
    have c2 := c22 s.to
    clear c22
    have n10 : ((10 : Int) != 0) = true := by decide
    have hno : timE l v s.fr = none ∨ timE l v s.to = none → lenT l v p = nilT 10 := fun h => by simp [lenT, h0, lenS_none h hm]
    simp only [evT, evA, List.map] at c1 c2
    cases hf : timE l v s.fr with
    | none =>
      have hN := hno (.inl hf)
      rw [timT_n h0 hf] at c1
      cases ht : timE l v s.to with
      | none =>
        rw [timT_n h0 ht] at c2
        clear hKL
        repeat' (first | refine W.seq fun K hK => ?_ | refine W.block ?_ | ((first | refine wR ?_ | refine wD ?_ | refine W.skip ?_ | refine W.exit ?_ | refine W.ret (Post.ret ?_) | refine aP ?_ | refine aF ?_ | refine aL ?_ | refine aU (hnn := by simp only [go_sem, reduceCtorEq, List.getElem?_map, hx, sgA, e1, hN, nilT, n10]) ?_ | refine aM ?_ | refine aN ?_ | refine aR ?_ | refine aD ?_); simp only [go_sem, reduceCtorEq, List.getElem?_map, hx, sgA, e1, hN, nilT, n10]) | refine wT ?_ | refine wF ?_ | refine wC (fun h => ?_) (fun h => ?_) | refine iK ?_ | refine aI2 ?_ | (refine hK _ ?_; clear hK K) | clear hK K)
      | some b =>
        rw [timT_s h0 ht] at c2
        clear hKL
        repeat' (first | refine W.seq fun K hK => ?_ | refine W.block ?_ | ((first | refine wR ?_ | refine wD ?_ | refine W.skip ?_ | refine W.exit ?_ | refine W.ret (Post.ret ?_) | refine aP ?_ | refine aF ?_ | refine aL ?_ | refine aU (hnn := by simp only [go_sem, reduceCtorEq, List.getElem?_map, hx, sgA, e1, hN, nilT, n10]) ?_ | refine aM ?_ | refine aN ?_ | refine aR ?_ | refine aD ?_); simp only [go_sem, reduceCtorEq, List.getElem?_map, hx, sgA, e1, hN, nilT, n10]) | refine wT ?_ | refine wF ?_ | refine wC (fun h => ?_) (fun h => ?_) | refine iK ?_ | refine aI2 ?_ | (refine hK _ ?_; clear hK K) | clear hK K)
    | some a =>
      rw [timT_s h0 hf] at c1
      cases ht : timE l v s.to with
      | none =>
        have hN := hno (.inr ht)
        rw [timT_n h0 ht] at c2
        clear hKL
        repeat' (first | refine W.seq fun K hK => ?_ | refine W.block ?_ | ((first | refine wR ?_ | refine wD ?_ | refine W.skip ?_ | refine W.exit ?_ | refine W.ret (Post.ret ?_) | refine aP ?_ | refine aF ?_ | refine aL ?_ | refine aU (hnn := by simp only [go_sem, reduceCtorEq, List.getElem?_map, hx, sgA, e1, hN, nilT, n10]) ?_ | refine aM ?_ | refine aN ?_ | refine aR ?_ | refine aD ?_); simp only [go_sem, reduceCtorEq, List.getElem?_map, hx, sgA, e1, hN, nilT, n10]) | refine wT ?_ | refine wF ?_ | refine wC (fun h => ?_) (fun h => ?_) | refine iK ?_ | refine aI2 ?_ | (refine hK _ ?_; clear hK K) | clear hK K)
      | some b =>
        rw [timT_s h0 ht] at c2
        have hst := lenS_snoc hf ht hinv
        rw [← take_at hx] at hst
        clear hno
        repeat' (first | refine W.seq fun K hK => ?_ | refine W.block ?_ | ((first | refine wR ?_ | refine wD ?_ | refine W.skip ?_ | refine W.exit ?_ | refine W.ret (Post.ret ?_) | refine aP ?_ | refine aF ?_ | refine aL ?_ | refine aU (hnn := by simp only [go_sem, reduceCtorEq, List.getElem?_map, hx, sgA, e1, hw, imR_len, List.length_map]) ?_ | refine aM ?_ | refine aN ?_ | refine aR ?_ | refine aD ?_); simp only [go_sem, reduceCtorEq, List.getElem?_map, hx, sgA, e1, hw, imR_len, List.length_map]) | refine wT ?_ | refine wF ?_ | refine wC (fun h => ?_) (fun h => ?_) | refine iK ?_ | refine aI2 ?_ | (refine hK _ ?_; clear hK K) | clear hK K)
        refine hKL.to (i + 1, L ++ [IntKind.i64.wrap (b - a)]) ⟨by simp; omega, hst⟩ (by simp; omega) (Fits.fit [(37, 0)] [0, 1, 6, 7, 9, 22, 23, 24] 1 rfl rfl ?_)
        simp only [go_sem, snocI]
        exact Fits.rfl
  obtain rfl : i = p.length := by omega
  rw [List.take_length] at hinv
  have e1 : decide ((p.length : Int) < p.length) = false := by simp
  have hN : lenT l v p = .t [(false, [.im (.sl 3 (L.map iA))]), (false, [fl (.int .i64 0)])] := by simp [lenT, h0, hinv]
  clear hKL c22
  repeat' (first | refine W.seq fun K hK => ?_ | refine W.block ?_ | ((first | refine wR ?_ | refine wD ?_ | refine W.skip ?_ | refine W.exit ?_ | refine W.ret (Post.ret ?_) | refine aP ?_ | refine aF ?_ | refine aL ?_ | refine aU (hnn := by simp only [go_sem, reduceCtorEq, e1, hN]) ?_ | refine aM ?_ | refine aN ?_ | refine aR ?_ | refine aD ?_); simp only [go_sem, reduceCtorEq, e1, hN]) | refine wT ?_ | refine wF ?_ | refine wC (fun h => ?_) (fun h => ?_) | refine iK ?_ | refine aI2 ?_ | (refine hK _ ?_; clear hK K) | clear hK K)
end Go.Proofs.YthlimkmjobpjoaaGreat
namespace Go.Proofs.YthlimkmjobpjoaaGreat
open Go.RowKit Go.Exe
def zSpn : List Cell := [fl (.int .i64 0), fl (.int .i64 0), fl (.int .i64 0), fl (.int .i64 0), fl (.int .i64 0), fl (.int .i64 0), fl (.string .empty), fl (.string .empty), fl (.string .empty), fl (.int .i64 0), fl (.int .i64 0), fl (.bool false), fl (.slice none 0 0), fl (.slice none 0 0)]
def spId (l : List Spn) (id : Int) : Option Spn := l.find? fun s => s.id == id
def findT (l : List Spn) (id : Int) : TV := match spId l id with
  | some s => .t [(true, (spA s).map .im), (false, [fl (.bool true)])]
  | none => .t [(true, zSpn), (false, [fl (.bool false)])]
attribute [local irreducible] W AX Run RunD AStep AOp AOpX AStB AStH AStG Fits PCall GCall PostG Post Stop
theorem find1_c (id : Int) (s : Spn) : PCall Tryz.prog 145 (spT s :: [AV.pt [.flat (.int .i64 id)]].map fun c => .c (.im c)) (ft (.bool (s.id == id))) := by
  simp only [spT, spA, List.map]
  refine PCall.intro (nt := 8) (rs := [.tmp 3]) Tryz.func145 rfl ⟨by kernel_rfl, by kernel_rfl, by kernel_rfl⟩ (by simp) ?_
  rintro ⟨P, w0, ok0, may, np, pblk⟩ rfl rfl
  repeat' (first | refine W.seq fun K hK => ?_ | refine W.block ?_ | ((first | refine wR ?_ | refine wD ?_ | refine W.skip ?_ | refine W.exit ?_ | refine W.ret (Post.ret ?_) | refine aP ?_ | refine aF ?_ | refine aK ?_ | refine aC ?_); simp only [go_sem, reduceCtorEq]) | refine wT ?_ | refine wF ?_ | refine wC (fun h => ?_) (fun h => ?_) | refine iK ?_ | refine aI2 ?_ | (refine hK _ ?_; clear hK K) | clear hK K)
theorem find_c (l : List Spn) (id : Int) : PCall Tryz.prog 115 [spsT l, ft (.int .i64 id)] (findT l id) := by
  have c59 := indexFunc_c l 145 [.pt [.flat (.int .i64 id)]] (fun s => s.id == id) (fun s => find1_c id s)
  refine PCall.intro (nt := 17) (rs := [.cell 4 42, .tmp 5]) Tryz.func115 rfl ⟨by kernel_rfl, by kernel_rfl, by kernel_rfl⟩ (by simp) ?_
  rintro ⟨P, w0, ok0, may, np, pblk⟩ rfl rfl
  refine W.lenB 0 rfl tE42 fun hl0 hl1 => ?_
  cases hf : l.findIdx? fun s => s.id == id with
  | none =>
    have h1 : idxN (fun s : Spn => s.id == id) l = -1 := by simp [idxN, hf]
    have h2 : findT l id = .t [(true, zSpn), (false, [fl (.bool false)])] := by
      have : spId l id = none := by
        rw [spId, List.find?_eq_none]
        rw [List.findIdx?_eq_none_iff] at hf
        exact fun x hx => by simp [hf x hx]
      simp [findT, this]
    have h3 : decide ((-1 : Int) < 0) = true := by decide
    rw [h1] at c59
    repeat' (first | refine W.seq fun K hK => ?_ | refine W.block ?_ | ((first | refine wR ?_ | refine wD ?_ | refine W.skip ?_ | refine W.exit ?_ | refine W.ret (Post.ret ?_) | refine aP ?_ | refine aF ?_ | refine aK ?_ | refine aC ?_); simp only [go_sem, reduceCtorEq, h3, h2, zSpn]) | refine wT ?_ | refine wF ?_ | refine wC (fun h => ?_) (fun h => ?_) | refine iK ?_ | refine aI2 ?_ | (refine hK _ ?_; clear hK K) | clear hK K)
  | some i =>
    have h1 : idxN (fun s : Spn => s.id == id) l = (i : Int) := by simp [idxN, hf]
    rw [List.findIdx?_eq_some_iff_getElem] at hf
    obtain ⟨hi, hp, hno⟩ := hf
    have hx : l[i]? = some l[i] := List.getElem?_eq_getElem hi
    have h2 : findT l id = .t [(true, (spA l[i]).map .im), (false, [fl (.bool true)])] := by
      have : spId l id = some l[i] := by
        rw [spId, List.find?_eq_some_iff_getElem]
        exact ⟨hp, i, hi, rfl, fun j hj => by simpa using hno j hj⟩
      simp [findT, this]
    generalize l[i] = s at hx h2 hp
    have h3 : decide ((i : Int) < 0) = false := by simp
    rw [h1] at c59
    repeat' (first | refine W.seq fun K hK => ?_ | refine W.block ?_ | ((first | refine wR ?_ | refine wD ?_ | refine W.skip ?_ | refine W.exit ?_ | refine W.ret (Post.ret ?_) | refine aP ?_ | refine aF ?_ | refine aK ?_ | refine aC ?_); simp only [go_sem, reduceCtorEq, h3, h2, List.getElem?_map, hx, spA]) | refine wT ?_ | refine wF ?_ | refine wC (fun h => ?_) (fun h => ?_) | refine iK ?_ | refine aI2 ?_ | (refine hK _ ?_; clear hK K) | clear hK K)
theorem indexI_c (l : List Int) (n : Int) : PCall Tryz.prog 82 [intsT l, ft (.int .i64 n)] (ft (.int .i64 (match l.findIdx? (fun x => n == x) with | some i => (i : Nat) | none => -1))) := by
  refine PCall.intro (nt := 19) (rs := [.tmp 4]) Tryz.func82 rfl ⟨by kernel_rfl, by kernel_rfl, by kernel_rfl⟩ (by simp) ?_
  rintro ⟨P, w0, ok0, may, np, pblk⟩ rfl rfl
  refine W.lenB 0 rfl tE3 fun hl0 hl1 => ?_
  rw [List.length_map] at hl1
  repeat' (first | refine W.seq fun K hK => ?_ | refine W.block ?_ | ((first | refine wR ?_ | refine wD ?_ | refine W.skip ?_ | refine W.exit ?_ | refine W.ret (Post.ret ?_) | refine aP ?_ | refine aF ?_); simp only [go_sem, reduceCtorEq]) | refine wT ?_ | refine wF ?_ | refine wC (fun h => ?_) (fun h => ?_) | refine iK ?_ | refine aI2 ?_ | (refine hK _ ?_; clear hK K) | clear hK K)
  refine W.loopF (T := fun i : Nat => { t := [(0, intsT l), (1, ft (.int .i64 n)), (6, intsT l), (7, ft (.int .i64 l.length)), (8, ft (.int .i64 (i : Nat)))], h := [], nx := 0, ex := [], nt := 19 })
    (Inv := fun i => i ≤ l.length ∧ ∀ x ∈ l.take i, (n == x) = false) (μ := fun i => l.length - i) (x0 := 0) (Fits.fit [] [0, 1, 6, 7, 8] 0 rfl rfl ?_) ⟨Nat.zero_le _, by simp⟩ ?_
  · simp only [go_sem, List.length_map]
    exact Fits.rfl
  rintro i ⟨hi, hinv⟩ KL hKL
  by_cases hlt : i < l.length
  · obtain ⟨x, hx, hm, hd⟩ := drop_at hlt
    have e1 : decide ((i : Int) < l.length) = true := by simp; omega
    have hw := w64s i (by omega)
    cases hc : n == x
    · repeat' (first | refine W.seq fun K hK => ?_ | refine W.block ?_ | ((first | refine wR ?_ | refine wD ?_ | refine W.skip ?_ | refine W.exit ?_ | refine W.ret (Post.ret ?_) | refine aP ?_ | refine aF ?_); simp only [go_sem, reduceCtorEq, List.getElem?_map, hx, iA, e1, hw, hc]) | refine wT ?_ | refine wF ?_ | refine wC (fun h => ?_) (fun h => ?_) | refine iK ?_ | refine aI2 ?_ | (refine hK _ ?_; clear hK K) | clear hK K)
      refine hKL.to (i + 1) ⟨by omega, fun y hy => ?_⟩ (by omega) (Fits.fit [] [0, 1, 6, 7, 8] 0 rfl rfl ?_)
      · rw [List.take_add_one, hx] at hy
        rcases List.mem_append.1 hy with hy | hy
        · exact hinv y hy
        · simp at hy; subst hy; exact hc
      · simp only [go_sem]
        exact Fits.rfl
    · have hf : l.findIdx? (fun x => n == x) = some i := by
        rw [List.findIdx?_eq_some_iff_getElem]
        obtain ⟨h1, h2⟩ := List.getElem?_eq_some_iff.1 hx
        refine ⟨h1, by rw [h2]; exact hc, fun j hj => ?_⟩
        have := hinv l[j] (List.mem_of_getElem? (i := j) (by rw [List.getElem?_take, if_pos hj, List.getElem?_eq_getElem]))
        simp [this]
      clear hKL
      repeat' (first | refine W.seq fun K hK => ?_ | refine W.block ?_ | ((first | refine wR ?_ | refine wD ?_ | refine W.skip ?_ | refine W.exit ?_ | refine W.ret (Post.ret ?_) | refine aP ?_ | refine aF ?_); simp only [go_sem, reduceCtorEq, List.getElem?_map, hx, iA, e1, hw, hc, hf]) | refine wT ?_ | refine wF ?_ | refine wC (fun h => ?_) (fun h => ?_) | refine iK ?_ | refine aI2 ?_ | (refine hK _ ?_; clear hK K) | clear hK K)
  obtain rfl : i = l.length := by omega
  rw [List.take_length] at hinv
  have e1 : decide ((l.length : Int) < l.length) = false := by simp
  have hf : l.findIdx? (fun x => n == x) = none := by
    rw [List.findIdx?_eq_none_iff]
    exact hinv
  clear hKL
  repeat' (first | refine W.seq fun K hK => ?_ | refine W.block ?_ | ((first | refine wR ?_ | refine wD ?_ | refine W.skip ?_ | refine W.exit ?_ | refine W.ret (Post.ret ?_) | refine aP ?_ | refine aF ?_); simp only [go_sem, reduceCtorEq, e1, hf]) | refine wT ?_ | refine wF ?_ | refine wC (fun h => ?_) (fun h => ?_) | refine iK ?_ | refine aI2 ?_ | (refine hK _ ?_; clear hK K) | clear hK K)
theorem contains_c (l : List Int) (n : Int) : PCall Tryz.prog 45 [intsT l, ft (.int .i64 n)] (ft (.bool (l.contains n))) := by
  have c1 := indexI_c l n
  refine PCall.intro (nt := 9) (rs := [.tmp 4]) Tryz.func45 rfl ⟨by kernel_rfl, by kernel_rfl, by kernel_rfl⟩ (by simp) ?_
  rintro ⟨P, w0, ok0, may, np, pblk⟩ rfl rfl
  cases h : l.findIdx? (fun x => n == x) with
  | none =>
    rw [h] at c1
    rw [List.findIdx?_eq_none_iff] at h
    have h2 : l.contains n = false := by
      rw [Bool.eq_false_iff]
      intro hc
      have := h n (List.contains_iff_mem.1 hc)
      simp at this
    have h3 : decide ((-1 : Int) ≥ 0) = false := by decide
    repeat' (first | refine W.seq fun K hK => ?_ | refine W.block ?_ | ((first | refine wR ?_ | refine wD ?_ | refine W.skip ?_ | refine W.exit ?_ | refine W.ret (Post.ret ?_) | refine aP ?_ | refine aF ?_); simp only [go_sem, reduceCtorEq, h2, h3]) | refine wT ?_ | refine wF ?_ | refine wC (fun h => ?_) (fun h => ?_) | refine iK ?_ | refine aI2 ?_ | (refine hK _ ?_; clear hK K) | clear hK K)
  | some i =>
    rw [h] at c1
    rw [List.findIdx?_eq_some_iff_getElem] at h
    obtain ⟨hi, hp, _⟩ := h
    have h2 : l.contains n = true := by
      rw [List.contains_iff_mem]
      simp at hp
      rw [hp]
      exact List.getElem_mem _
    have h3 : decide ((i : Int) ≥ 0) = true := by simp
    repeat' (first | refine W.seq fun K hK => ?_ | refine W.block ?_ | ((first | refine wR ?_ | refine wD ?_ | refine W.skip ?_ | refine W.exit ?_ | refine W.ret (Post.ret ?_) | refine aP ?_ | refine aF ?_); simp only [go_sem, reduceCtorEq, h2, h3]) | refine wT ?_ | refine wF ?_ | refine wC (fun h => ?_) (fun h => ?_) | refine iK ?_ | refine aI2 ?_ | (refine hK _ ?_; clear hK K) | clear hK K)
end Go.Proofs.YthlimkmjobpjoaaGreat
namespace Go.Proofs.YthlimkmjobpjoaaGreat
open Go.RowKit Go.Exe
/-! ### the blocking children -/
def cmId (a b : Spn) : Int := cmpI a.id b.id
def srtId (l : List Spn) : List Spn := srtG cmId l
theorem cmId_lt {a b : Spn} : cmId a b < 0 ↔ a.id < b.id := by unfold cmId cmpI; split <;> (try split) <;> omega
theorem srtId_perm (l : List Spn) : (srtId l).Perm l := srtG_perm _ _
theorem srtId_sorted (l : List Spn) : (srtId l).Pairwise fun a b => a.id ≤ b.id := by
  refine (List.pairwise_mergeSort (le := fun a b => decide (cmId a b ≤ 0)) (fun a b c h1 h2 => ?_) (fun a b => ?_) l).imp fun {a b} h => ?_
  · simp only [decide_eq_true_eq] at *
    unfold cmId cmpI at *
    repeat' split at *
    all_goals omega
  · simp only [Bool.or_eq_true, decide_eq_true_eq]
    unfold cmId cmpI
    repeat' split
    all_goals omega
  · simp only [decide_eq_true_eq] at h
    unfold cmId cmpI at h
    repeat' split at h
    all_goals omega
theorem id_eq {l : List Spn} (hn : (idsOf l).Nodup) {a b : Spn} (ha : a ∈ l) (hb : b ∈ l) (h : a.id = b.id) : a = b := id_uni hn ha hb h
theorem srtId_uni {l zs : List Spn} (hn : (idsOf l).Nodup) (hp : zs.Perm l) (hs : zs.Pairwise fun a b => a.id ≤ b.id) : zs = srtId l :=
  List.Perm.eq_of_pairwise (fun a b ha hb h1 h2 => id_eq hn (hp.mem_iff.1 ha) ((srtId_perm l).mem_iff.1 hb) (by omega)) hs (srtId_sorted l) (hp.trans (srtId_perm l).symm)
theorem cmId_ord (l : List Spn) : OrdOn cmId l where
  irrefl := fun x _ h => by rw [cmId_lt] at h; omega
  trans := fun x _ y _ z _ h1 h2 => by rw [cmId_lt] at *; omega
  ntrans := fun x _ y _ z _ h1 h2 h3 => by rw [cmId_lt] at *; omega
attribute [local irreducible] W AX Run RunD AStep AOp AOpX AStB AStH AStG Fits PCall GCall PostG Post Stop
theorem blocking1_c (a b : Spn) : PCall Tryz.prog 148 [spT a, spT b] (ft (.int .i64 (cmId a b))) := by
  have c1 := cmpCompareI_c a.id b.id
  unfold cmId
  generalize cmpI a.id b.id = z at c1 ⊢
  simp only [spT, spA, List.map]
  refine PCall.intro (nt := 10) (rs := [.tmp 4]) Tryz.func148 rfl ⟨by kernel_rfl, by kernel_rfl, by kernel_rfl⟩ (by simp) ?_
  rintro ⟨P, w0, ok0, may, np, pblk⟩ rfl rfl
  repeat' (first | refine W.seq fun K hK => ?_ | refine W.block ?_ | ((first | refine wR ?_ | refine wD ?_ | refine W.skip ?_ | refine W.exit ?_ | refine W.ret (Post.ret ?_) | refine aP ?_ | refine aF ?_); simp only [go_sem, reduceCtorEq]) | refine wT ?_ | refine wF ?_ | refine wC (fun h => ?_) (fun h => ?_) | refine iK ?_ | refine aI2 ?_ | (refine hK _ ?_; clear hK K) | clear hK K)
theorem sortedId_c (c53 : SortC Tryz.prog 164 14) (ss : List Spn) (hn : (idsOf ss).Nodup) (hlen : ss.length * 168 ≤ 140737488355328) :
    GCall Tryz.prog 146 0 (St.g [.c (.im (.fn 165 [.pt [.sl 42 (ss.map spA)]])), .c (.clo 148 [])] [] 0) (St.r (.c (.ref 0)) [(0, .row 42 (imR ((srtId ss).map spA)))] 1) := by
  have hc := collect_c 165 [.pt [.sl 42 (ss.map spA)]] ss (values1_it ss) hlen
  refine GCall.introG (nt := 12) (rs := [.tmp 4]) Tryz.func146 rfl ⟨by kernel_rfl, by kernel_rfl, by kernel_rfl⟩ (by simp) ?_
  rintro ⟨P, w0, ok0, may, np, pblk⟩ rfl rfl
  simp only [go_sem]
  repeat' (first | refine W.seq fun K hK => ?_ | refine W.block ?_ | ((first | refine wR ?_ | refine wD ?_ | refine W.skip ?_ | refine W.exit ?_ | refine W.ret (Post.ret ?_) | refine aP ?_ | refine aF ?_); simp only [go_sem, reduceCtorEq]) | refine wT ?_ | refine wF ?_ | refine wC (fun h => ?_) (fun h => ?_) | refine iK ?_ | refine aI2 ?_ | (refine hK _ ?_; clear hK K) | clear hK K)
  refine AX.gcall [] rfl rfl (hc) (by simp only [go_sem, reduceCtorEq]) (by simp only [go_sem, reduceCtorEq]) rfl rfl (by simp only [go_sem, Obj.owns]) rfl (by simp only [go_sem, Obj.owns]) rfl rfl ?_
  simp only [go_sem, reduceCtorEq]
  repeat' (first | refine W.seq fun K hK => ?_ | refine W.block ?_ | ((first | refine wR ?_ | refine wD ?_ | refine W.skip ?_ | refine W.exit ?_ | refine W.ret (Post.ret ?_) | refine aP ?_ | refine aF ?_); simp only [go_sem, reduceCtorEq]) | refine wT ?_ | refine wF ?_ | refine wC (fun h => ?_) (fun h => ?_) | refine iK ?_ | refine aI2 ?_ | (refine hK _ ?_; clear hK K) | clear hK K)
  refine AX.sort (zs := srtId ss) (cm := cmId) spA rfl rfl rfl rfl rfl rfl tE42 (by decide) c53 (fun x _ y _ => blocking1_c x y) (cmId_ord _) (srtG_perm _ _) (fun zs' h1 h2 => srtId_uni hn h1 (h2.imp fun {a b} h => by rw [cmId_lt] at h; omega)) rfl ?_
  simp only [go_sem]
  repeat' (first | refine W.seq fun K hK => ?_ | refine W.block ?_ | ((first | refine wR ?_ | refine wD ?_ | refine W.skip ?_ | refine W.exit ?_ | refine W.ret (Post.ret ?_) | refine aP ?_ | refine aF ?_); simp only [go_sem, reduceCtorEq]) | refine wT ?_ | refine wF ?_ | refine wC (fun h => ?_) (fun h => ?_) | refine iK ?_ | refine aI2 ?_ | (refine hK _ ?_; clear hK K) | clear hK K)
  refine W.ret (PostG.ret (Fits.fit [(2, 0)] [4] 1 rfl rfl Fits.rfl) rfl rfl ?_)
  simp only [St.r, go_sem]
abbrev KM := List (Int × List Spn)
def putK (m : KM) (s : Spn) : KM := match m with
  | [] => [(s.pa, [s])]
  | y :: r => if y.1 = s.pa then (y.1, y.2 ++ [s]) :: r else y :: putK r s
def getK (m : KM) (k : Int) : Option (List Spn) := match m with
  | [] => none
  | y :: r => if y.1 = k then some y.2 else getK r k
def blk (s : Spn) : Bool := s.pa != 0 && s.kd != 5
def kmN (l : List Spn) (n : Nat) : KM := ((l.take n).filter blk).foldl putK []
def kE (m : KM) : List (Value × Bool × List Cell) := m.map fun y => (.int .i64 y.1, false, [.orow 42 (y.2.map spA)])
def kEA (m : KM) : List (Value × Bool × List AV) := m.map fun y => (.int .i64 y.1, false, [.sl 42 (y.2.map spA)])
theorem kE_close (m : KM) : closeE (kE m) = some (kEA m) := closeE_map _ _ (fun x => ⟨rfl, rfl, by simp [closeL, closeC, unim_im]⟩) m
theorem kmN_step {l : List Spn} {i : Nat} {s : Spn} (h : l[i]? = some s) : kmN l (i + 1) = if blk s then putK (kmN l i) s else kmN l i := by
  unfold kmN
  rw [List.take_add_one, h, List.filter_append]
  cases hb : blk s <;> simp [hb, List.foldl_append]
/-- The children of a span, out of the map. -/
theorem getK_put (m : KM) (s : Spn) (k : Int) : getK (putK m s) k = if s.pa = k then some (((getK m k).getD []) ++ [s]) else getK m k := by
  induction m with
  | nil => simp [putK, getK]
  | cons y r ih =>
    simp only [putK, getK]
    by_cases h : y.1 = s.pa
    · rw [if_pos h]
      simp only [getK]
      by_cases h2 : y.1 = k
      · simp [h2, ← h]
      · have : ¬ s.pa = k := by rw [← h]; exact h2
        simp [h2, this]
    · rw [if_neg h]
      simp only [getK, ih]
      by_cases h2 : y.1 = k
      · have : ¬ s.pa = k := by rw [← h2]; exact fun e => h e.symm
        simp [h2, this]
      · simp [h2]
theorem getK_km (l : List Spn) (k : Int) : (getK (kmN l l.length) k).getD [] = (l.filter fun s => blk s && s.pa == k) := by
  unfold kmN
  rw [List.take_length]
  have key : ∀ (l : List Spn) (m : KM), (getK (l.foldl putK m) k).getD [] = (getK m k).getD [] ++ l.filter fun s => s.pa == k := by
    intro l
    induction l with
    | nil => simp
    | cons s l ih =>
      intro m
      rw [List.foldl_cons, ih, getK_put]
      by_cases h : s.pa = k
      · simp [h]
      · simp [h]
  rw [key]
  simp [getK, List.filter_filter]
  exact List.filter_congr fun x _ => by rw [Bool.and_comm]
theorem rnEs_kE (r : Ren) (m : KM) : rnEs r (kE m) = kE m := rnEs_map r _ (fun _ => rfl) _
theorem putK_at {s : Spn} : ∀ {m : KM} {j : Nat} {y : Int × List Spn}, (m.map (·.1)).Nodup → m[j]? = some y → y.1 = s.pa → putK m s = m.set j (y.1, y.2 ++ [s])
  | x :: r, 0, y, _, h, e => by simp at h; subst h; simp [putK, e]
  | x :: r, j + 1, y, hn, h, e => by
    simp only [List.map_cons, List.nodup_cons] at hn
    have hne : x.1 ≠ s.pa := fun e' => hn.1 (by rw [e', ← e]; exact List.mem_map_of_mem (List.mem_of_getElem? (by simpa using h)))
    simp [putK, hne, putK_at hn.2 (by simpa using h) e]
theorem putK_none {s : Spn} : ∀ {m : KM}, (∀ y ∈ m, y.1 ≠ s.pa) → putK m s = m ++ [(s.pa, [s])]
  | [], _ => rfl
  | x :: r, h => by simp [putK, h x (by simp), putK_none (m := r) fun y hy => h y (by simp [hy])]
theorem putK_keys {m : KM} (s : Spn) (hn : (m.map (·.1)).Nodup) : ((putK m s).map (·.1)).Nodup := by
  by_cases h : ∃ y ∈ m, y.1 = s.pa
  · obtain ⟨y, hy, e⟩ := h
    obtain ⟨j, hj⟩ := List.getElem?_of_mem hy
    rw [putK_at hn hj e, List.map_set]
    have hl := (List.getElem?_eq_some_iff.1 hj).1
    have : (m.map (·.1)).set j y.1 = m.map (·.1) := by
      have h2 : y.1 = (m.map (·.1))[j]'(by simpa using hl) := by
        rw [← (List.getElem?_eq_some_iff.1 hj).2]; simp
      rw [h2, List.set_getElem_self]
    simp only [this]; exact hn
  · rw [putK_none fun y hy e => h ⟨y, hy, e⟩, List.map_append]
    refine List.nodup_append.2 ⟨hn, by simp, fun a ha b hb => ?_⟩
    obtain ⟨c, hc, rfl⟩ := List.mem_map.1 ha
    simp at hb; subst hb
    exact fun e => h ⟨c, hc, e⟩
theorem kmN_keys (l : List Spn) (n : Nat) : ((kmN l n).map (·.1)).Nodup := by
  unfold kmN
  have key : ∀ (l : List Spn) (m : KM), (m.map (·.1)).Nodup → ((l.foldl putK m).map (·.1)).Nodup := by
    intro l
    induction l with
    | nil => exact fun m h => h
    | cons s l ih => exact fun m h => ih _ (putK_keys s h)
  exact key _ [] List.Pairwise.nil
/-- How many spans the map holds under a key. -/
theorem kmN_len (l : List Spn) (n : Nat) : ∀ y ∈ kmN l n, y.2.length ≤ n := by
  have key : ∀ (l : List Spn) (m : KM) (b : Nat), (∀ y ∈ m, y.2.length ≤ b) → ∀ y ∈ l.foldl putK m, y.2.length ≤ b + l.length := by
    intro l
    induction l with
    | nil => exact fun m b h => h
    | cons s l ih =>
      intro m b h y hy
      have h2 : ∀ z ∈ putK m s, z.2.length ≤ b + 1 := by
        intro z hz
        clear hy ih
        induction m with
        | nil => simp [putK] at hz; subst hz; simp
        | cons x r ihr =>
          unfold putK at hz
          split at hz
          · rcases List.mem_cons.1 hz with rfl | hz
            · have := h x (by simp); simp; omega
            · have := h z (by simp [hz]); omega
          · rcases List.mem_cons.1 hz with rfl | hz
            · have := h z (by simp); omega
            · exact ihr (fun y hy => h y (by simp [hy])) hz
      have := ih _ _ h2 y hy
      simp only [List.length_cons]; omega
  intro y hy
  have := key _ [] 0 (by simp) y hy
  have h2 := List.length_filter_le blk (l.take n)
  rw [List.length_take] at h2
  omega
theorem mget_sE {key : Value} {es : List (Value × Bool × List Cell)} {i : Nat} {cs : List Cell} {c : Cell} (hn : (es.map (·.1)).Nodup) (h : es[i]? = some (key, false, cs)) : mget key (Go.Exe.setE es i c) = some (false, [c]) := by
  rw [Go.Exe.setE_set c h]
  have hl := (List.getElem?_eq_some_iff.1 h).1
  refine mget_at (j := i) (e := (key, false, [c])) ?_ ?_ rfl
  · have := Go.Exe.setE_keys es i c
    rw [Go.Exe.setE_set c h] at this
    rw [this]; exact hn
  · rw [List.getElem?_set_self hl]
theorem mput_sE {key : Value} {es : List (Value × Bool × List Cell)} {i : Nat} {cs : List Cell} {c d : Cell} (hn : (es.map (·.1)).Nodup) (h : es[i]? = some (key, false, cs)) : mput key (false, [d]) (Go.Exe.setE es i c) = Go.Exe.setE es i d := by
  have hk := Go.Exe.setE_keys es i c
  have hl := (List.getElem?_eq_some_iff.1 h).1
  rw [mput_at (j := i) (e := (key, false, [c])) (by rw [hk]; exact hn) (by rw [Go.Exe.setE_set c h, List.getElem?_set_self hl]) rfl, Go.Exe.setE_set c h, Go.Exe.setE_set d h, List.set_set]
theorem sE_sE : ∀ (es : List (Value × Bool × List Cell)) (i : Nat) (c d : Cell), Go.Exe.setE (Go.Exe.setE es i c) i d = Go.Exe.setE es i d
  | [], _, _, _ => rfl
  | e :: r, 0, c, d => rfl
  | e :: r, i + 1, c, d => by simp [Go.Exe.setE, sE_sE r i c d]
theorem kE_keys (m : KM) : (kE m).map (·.1) = (m.map (·.1)).map fun k => Value.int .i64 k := by simp [kE, Function.comp_def]
theorem kE_nodup {m : KM} (h : (m.map (·.1)).Nodup) : ((kE m).map (·.1)).Nodup := by
  rw [kE_keys]
  unfold List.Nodup at h ⊢
  rw [List.pairwise_map]
  exact h.imp fun {a b} hab e => hab (by injection e)
theorem kE_set {m : KM} {j : Nat} {y : Int × List Spn} (h : m[j]? = some y) (z : List Spn) : Go.Exe.setE (kE m) j (.orow 42 (z.map spA)) = kE (m.set j (y.1, z)) := by
  rw [Go.Exe.setE_set (key := .int .i64 y.1) (b := false) (cs := [.orow 42 (y.2.map spA)]) _ (by simp [kE, h])]
  simp [kE, List.map_set]
theorem snocS (l : List Spn) (s : Spn) : imR ((l ++ [s]).map spA) = imR (l.map spA) ++ [(spA s).map .im] := by simp [imR, imL]
end Go.Proofs.YthlimkmjobpjoaaGreat
namespace Go.Proofs.YthlimkmjobpjoaaGreat
open Go.RowKit Go.Exe
theorem kE_get {m : KM} {j : Nat} {y : Int × List Spn} (h : m[j]? = some y) : (kE m)[j]? = some (.int .i64 y.1, false, [.orow 42 (y.2.map spA)]) := by simp [kE, h]
theorem kE_no {m : KM} {k : Int} (h : ∀ y ∈ m, y.1 ≠ k) : ∀ e ∈ kE m, e.1 ≠ Value.int .i64 k := fun e he => by
  obtain ⟨y, hy, rfl⟩ := List.mem_map.1 he
  exact fun e => h y hy (by injection e)
theorem kE_snoc (m : KM) (k : Int) (n : Nat) (z : List Spn) : Go.Exe.setE (kE m ++ [(Value.int .i64 k, false, [Cell.ref n])]) m.length (.orow 42 (z.map spA)) = kE (m ++ [(k, z)]) := by
  induction m with
  | nil => rfl
  | cons y r ih => simp only [kE, List.map_cons, List.cons_append, List.length_cons, Go.Exe.setE] at ih ⊢; rw [ih]
def kidM (l : List Spn) : KM := kmN (srtId l) (srtId l).length
abbrev kidMT (l : List Spn) : TV := .c (.im (.mp 3 (kEA (kidM l))))
attribute [local irreducible] W AX Run RunD AStep AOp AOpX AStB AStH AStG Fits PCall GCall PostG Post Stop
theorem blocking_c (c53 : SortC Tryz.prog 164 14) (ss : List Spn) (hnd : (idsOf ss).Nodup) (hI : ∀ s ∈ ss, I64 s.pa) (hlen : ss.length * 168 ≤ 140737488355328) : PCall Tryz.prog 116 [spsT ss] (kidMT ss) := by
  have c66 := values_c ss
  have c52 := blocks_c
  obtain ⟨L, hL⟩ : ∃ l, l = srtId ss := ⟨_, rfl⟩
  have hLI : ∀ s ∈ L, I64 s.pa := fun s hs => hI s ((srtId_perm ss).mem_iff.1 (hL ▸ hs))
  have hLl : L.length * 168 ≤ 140737488355328 := by rw [hL, (srtId_perm ss).length_eq]; exact hlen
  have c65 := sortedId_c c53 ss hnd hlen
  unfold kidMT kidM
  rw [← hL] at c65 ⊢
  clear hL c53 hI hlen hnd
  refine PCall.intro (nt := 34) (rs := [.tmp 2]) Tryz.func116 rfl ⟨by kernel_rfl, by kernel_rfl, by kernel_rfl⟩ (by simp) ?_
  rintro ⟨P, w0, ok0, may, np, pblk⟩ rfl rfl
  repeat' (first | refine W.seq fun K hK => ?_ | refine W.block ?_ | ((first | refine wR ?_ | refine wD ?_ | refine W.skip ?_ | refine W.exit ?_ | refine W.ret (Post.ret ?_) | refine aP ?_ | refine aF ?_ | refine aL ?_ | refine aU ?_ | refine aM ?_ | refine aN ?_ | refine aR ?_); simp only [go_sem, reduceCtorEq]) | refine wT ?_ | refine wF ?_ | refine wC (fun h => ?_) (fun h => ?_) | refine iK ?_ | refine aI2 ?_ | (refine hK _ ?_; clear hK K) | clear hK K)
  refine AX.gcall [] rfl rfl (c65) (by simp only [go_sem, reduceCtorEq, List.length_map, imR_len]) (by simp only [go_sem, reduceCtorEq, List.length_map, imR_len]) rfl rfl (by simp only [go_sem, Obj.owns]) rfl (by simp only [go_sem, Obj.owns]) rfl rfl ?_
  simp only [go_sem, reduceCtorEq, List.length_map, imR_len]
  repeat' (first | refine W.seq fun K hK => ?_ | refine W.block ?_ | ((first | refine wR ?_ | refine wD ?_ | refine W.skip ?_ | refine W.exit ?_ | refine W.ret (Post.ret ?_) | refine aP ?_ | refine aF ?_ | refine aL ?_ | refine aU (hnn := by simp only [go_sem, reduceCtorEq, List.length_map, imR_len]) ?_ | refine aM ?_ | refine aN ?_ | refine aR ?_); simp only [go_sem, reduceCtorEq, List.length_map, imR_len]) | refine wT ?_ | refine wF ?_ | refine wC (fun h => ?_) (fun h => ?_) | refine iK ?_ | refine aI2 ?_ | (refine hK _ ?_; clear hK K) | clear hK K)
  clear c65 c66
  refine W.loopF (T := fun i : Nat => { t := [(3, .c (.mp 0)), (9, .c (.ref 1)), (10, ft (.int .i64 L.length)), (11, ft (.int .i64 (i : Nat)))], h := [(0, .map 3 (kE (kmN L i))), (1, .row 42 (imR (L.map spA)))], nx := 2, ex := [], nt := 34 })
    (Inv := fun i => i ≤ L.length) (μ := fun i => L.length - i) (x0 := 0) ?_ (Nat.zero_le _) ?_
  · refine Fits.fit [(1, 0), (5, 1)] [3, 9, 10, 11] 2 rfl rfl ?_
    simp only [go_sem, kmN, List.take_zero, List.filter_nil, List.foldl_nil, kE, List.map_nil]
    exact Fits.rfl
  rintro i hi KL hKL
  by_cases hlt : i < L.length
  · obtain ⟨s, hx, hm, hd⟩ := drop_at hlt
    have e1 : decide ((i : Int) < L.length) = true := by simp; omega
    have e2 : decide (i < L.length) = true := by simp; omega
    have hw := w64s i (by omega)
    have hko := koI (hLI s hm)
    have hst := kmN_step hx
    have hks := kmN_keys L i
    have hkl := kmN_len L i
    have cb := c52 s
    clear c52
    by_cases h0 : s.pa = 0
    · have h1 : (s.pa != 0) = false := by simp [h0]
      have hb : blk s = false := by simp [blk, h0]
      rw [hb, if_neg (by simp)] at hst
      have h2 : (s.pa == 0) = true := by simp [h0]
      simp only [spT, spA, List.map] at cb
      repeat' (first | refine W.seq fun K hK => ?_ | refine W.block ?_ | ((first | refine wR ?_ | refine wD ?_ | refine W.skip ?_ | refine W.exit ?_ | refine W.ret (Post.ret ?_) | refine aP ?_ | refine aF ?_ | refine aL ?_ | refine aU (hnn := by simp only [go_sem, reduceCtorEq, List.getElem?_map, hx, spA, e1, e2, hw, h1, h2, imR_len, imR_get, imL, List.length_map]) ?_ | refine aM ?_ | refine aN ?_ | refine aR ?_); simp only [go_sem, reduceCtorEq, List.getElem?_map, hx, spA, e1, e2, hw, h1, h2, imR_len, imR_get, imL, List.length_map]) | refine wT ?_ | refine wF ?_ | refine wC (fun h => ?_) (fun h => ?_) | refine iK ?_ | refine aI2 ?_ | (refine hK _ ?_; clear hK K) | clear hK K)
      refine hKL.to (i + 1) (by omega) (by omega) (Fits.fit [(0, 0), (1, 1)] [3, 9, 10, 11] 2 rfl rfl ?_)
      simp only [go_sem, rnEs_kE, hst]
      exact Fits.rfl
    · have h1 : (s.pa != 0) = true := by simp [h0]
      have h2 : (s.pa == 0) = false := by simp [h0]
      by_cases h3 : s.kd = 5
      · have hb : blk s = false := by simp [blk, h3]
        have h4 : (s.kd != 5) = false := by simp [h3]
        rw [hb, if_neg (by simp)] at hst
        rw [h4] at cb
        simp only [spT, spA, List.map] at cb
        repeat' (first | refine W.seq fun K hK => ?_ | refine W.block ?_ | ((first | refine wR ?_ | refine wD ?_ | refine W.skip ?_ | refine W.exit ?_ | refine W.ret (Post.ret ?_) | refine aP ?_ | refine aF ?_ | refine aL ?_ | refine aU (hnn := by simp only [go_sem, reduceCtorEq, List.getElem?_map, hx, spA, e1, e2, hw, h1, h2, imR_len, imR_get, imL, List.length_map]) ?_ | refine aM ?_ | refine aN ?_ | refine aR ?_); simp only [go_sem, reduceCtorEq, List.getElem?_map, hx, spA, e1, e2, hw, h1, h2, imR_len, imR_get, imL, List.length_map]) | refine wT ?_ | refine wF ?_ | refine wC (fun h => ?_) (fun h => ?_) | refine iK ?_ | refine aI2 ?_ | (refine hK _ ?_; clear hK K) | clear hK K)
        refine hKL.to (i + 1) (by omega) (by omega) (Fits.fit [(0, 0), (1, 1)] [3, 9, 10, 11] 2 rfl rfl ?_)
        simp only [go_sem, rnEs_kE, hst]
        exact Fits.rfl
      · have hb : blk s = true := by simp [blk, h3, h0]
        have h4 : (s.kd != 5) = true := by simp [h3]
        rw [hb, if_pos rfl] at hst
        rw [h4] at cb
        simp only [spT, spA, List.map] at cb
        obtain ⟨m1, hm1⟩ : ∃ m, m = kmN L (i + 1) := ⟨_, rfl⟩
        rw [← hm1] at hst
        generalize kmN L i = m at *
        repeat' (first | refine W.stop (id := 6) ?_ | refine W.seq fun K hK => ?_ | refine W.block ?_ | ((first | refine wR ?_ | refine wD ?_ | refine W.skip ?_ | refine W.exit ?_ | refine W.ret (Post.ret ?_) | refine aP ?_ | refine aF ?_ | refine aL ?_ | refine aU (hnn := by simp only [go_sem, reduceCtorEq, List.getElem?_map, hx, spA, e1, e2, hw, h1, h2, imR_len, imR_get, imL, List.length_map]) ?_ | refine aM ?_ | refine aN ?_ | refine aR ?_); simp only [go_sem, reduceCtorEq, List.getElem?_map, hx, spA, e1, e2, hw, h1, h2, imR_len, imR_get, imL, List.length_map]) | refine wT ?_ | refine wF ?_ | refine wC (fun h => ?_) (fun h => ?_) | refine iK ?_ | refine aI2 ?_ | (refine hK _ ?_; clear hK K) | clear hK K)
        refine Stop.out ?_
        refine W.fits (s' := { t := [(3, .c (.mp 0)), (5, .c (.ptr 2 0)), (9, .c (.ref 1)), (10, ft (.int .i64 L.length)), (11, ft (.int .i64 (i : Nat)))], h := [(0, .map 3 (kE m)), (1, .row 42 (imR (L.map spA))), (2, .box 42 ((spA s).map .im))], nx := 3, ex := [], nt := 34 }) ?_ ?_
        · refine Fits.fit [(0, 0), (1, 1), (5, 2)] [3, 5, 9, 10, 11] 3 rfl rfl ?_
          simp only [go_sem, rnEs_kE]
          exact Fits.rfl
        by_cases hex : ∃ y ∈ m, y.1 = s.pa
        · obtain ⟨y, hym, hye⟩ := hex
          obtain ⟨j, hj⟩ := List.getElem?_of_mem hym
          have hat := putK_at hks hj hye
          have hei := kE_get hj
          rw [hye] at hei
          have hyl := hkl y hym
          have hget := fun c => mget_sE (c := c) (kE_nodup hks) hei
          have hput := fun c d => mput_sE (c := c) (d := d) (kE_nodup hks) hei
          have hfin := kE_set hj (y.2 ++ [s])
          rw [hat] at hst
          simp only [spA, List.map]
          refine W.fits (Fits.unf 0 j 0 200 (c := .orow 42 (y.2.map spA)) rfl rfl (by simp only [go_sem, hei]) rfl rfl Fits.rfl) ?_
          simp only [go_sem]
          repeat' (first | refine W.seq fun K hK => ?_ | refine W.block ?_ | ((first | refine wR ?_ | refine wD ?_ | refine W.skip ?_ | refine W.exit ?_ | refine W.ret (Post.ret ?_) | refine aP ?_ | refine aF ?_ | refine aL ?_ | refine aU (hnn := by simp only [go_sem, reduceCtorEq, hget, hput, hw, imR_len, imL, List.length_map, spA]) ?_ | refine aM ?_ | refine aN ?_ | refine aR ?_); simp only [go_sem, reduceCtorEq, hget, hput, hw, imR_len, imL, List.length_map, spA]) | refine wT ?_ | refine wF ?_ | refine wC (fun h => ?_) (fun h => ?_) | refine iK ?_ | refine aI2 ?_ | (refine hK _ ?_; clear hK K) | clear hK K)
          refine hKL.to (i + 1) (by omega) (by omega) ?_
          have hrow : imR (List.map spA y.2) ++ [(spA s).map .im] = imR ((y.2 ++ [s]).map spA) := (snocS y.2 s).symm
          simp only [spA, List.map] at hrow
          simp only [hrow]
          refine Fits.fold 0 j 0 210 (.orow 42 ((y.2 ++ [s]).map spA)) rfl rfl rfl (by simp only [go_sem, Go.Exe.setE_set _ hei, List.getElem?_set_self (List.getElem?_eq_some_iff.1 hei).1]) (by decide) ?_
          refine Fits.fit [(0, 0), (1, 1)] [3, 9, 10, 11] 2 rfl rfl ?_
          simp only [go_sem, sE_sE, hfin, ← hst, rnEs_kE, hm1]
          exact Fits.rfl
        · have hno : ∀ y ∈ m, y.1 ≠ s.pa := fun y hy e => hex ⟨y, hy, e⟩
          rw [putK_none hno] at hst
          have hget : mget (Value.int .i64 s.pa) (kE m) = none := mget_none (kE_no hno)
          have hput : ∀ y, mput (Value.int .i64 s.pa) y (kE m) = kE m ++ [(Value.int .i64 s.pa, y)] := fun y => mput_none (kE_no hno)
          have hfin := kE_snoc m s.pa 12 [s]
          simp only [List.map] at hfin
          repeat' (first | refine W.seq fun K hK => ?_ | refine W.block ?_ | ((first | refine wR ?_ | refine wD ?_ | refine W.skip ?_ | refine W.exit ?_ | refine W.ret (Post.ret ?_) | refine aP ?_ | refine aF ?_ | refine aL ?_ | refine aU (hnn := by simp only [go_sem, reduceCtorEq, hget, hput, hw, imR_len, imL, List.length_map, spA]) ?_ | refine aM ?_ | refine aN ?_ | refine aR ?_); simp only [go_sem, reduceCtorEq, hget, hput, hw, imR_len, imL, List.length_map, spA]) | refine wT ?_ | refine wF ?_ | refine wC (fun h => ?_) (fun h => ?_) | refine iK ?_ | refine aI2 ?_ | (refine hK _ ?_; clear hK K) | clear hK K)
          refine hKL.to (i + 1) (by omega) (by omega) ?_
          refine Fits.fold 0 m.length 0 12 (.orow 42 ([s].map spA)) rfl rfl rfl (by simp [Obj.slot, kE, refCell]) (by decide) ?_
          simp only [go_sem, hfin]
          refine Fits.fit [(0, 0), (1, 1)] [3, 9, 10, 11] 2 rfl rfl ?_
          simp only [go_sem, ← hst, rnEs_kE, hm1]
          exact Fits.rfl
  · obtain rfl : i = L.length := by omega
    have e1 : decide ((L.length : Int) < L.length) = false := by simp
    clear hKL
    repeat' (first | refine W.stop (id := 8) ?_ | refine W.seq fun K hK => ?_ | refine W.block ?_ | ((first | refine wR ?_ | refine wD ?_ | refine W.skip ?_ | refine W.exit ?_ | refine W.ret (Post.ret ?_) | refine aP ?_ | refine aF ?_ | refine aL ?_ | refine aU (hnn := by simp only [go_sem, reduceCtorEq, e1]) ?_ | refine aM ?_ | refine aN ?_ | refine aR ?_); simp only [go_sem, reduceCtorEq, e1]) | refine wT ?_ | refine wF ?_ | refine wC (fun h => ?_) (fun h => ?_) | refine iK ?_ | refine aI2 ?_ | (refine hK _ ?_; clear hK K) | clear hK K)
    refine Stop.out ?_
    refine W.fits (Fits.freezeM 0 rfl (kE_close _) Fits.rfl) ?_
    simp only [go_sem]
    repeat' (first | refine W.seq fun K hK => ?_ | refine W.block ?_ | ((first | refine wR ?_ | refine wD ?_ | refine W.skip ?_ | refine W.exit ?_ | refine W.ret (Post.ret ?_) | refine aP ?_ | refine aF ?_ | refine aL ?_ | refine aU ?_ | refine aM ?_ | refine aN ?_ | refine aR ?_); simp only [go_sem, reduceCtorEq]) | refine wT ?_ | refine wF ?_ | refine wC (fun h => ?_) (fun h => ?_) | refine iK ?_ | refine aI2 ?_ | (refine hK _ ?_; clear hK K) | clear hK K)
end Go.Proofs.YthlimkmjobpjoaaGreat
namespace Go.Proofs.YthlimkmjobpjoaaGreat
open Go.RowKit Go.Exe
@[go_sem] theorem tI159 : TI Tryz.prog 159 = some (false, 1) := by kernel_rfl
theorem fields52 : (Tryz.prog.fieldsOf 116).toList = [{ name := "Span", type := 114, offset := 0, embedded := false, tag := "", pkgPath := "", byteOffset := 0 }, { name := "End", type := 4, offset := 2, embedded := false, tag := "", pkgPath := "", byteOffset := 16 }] := by kernel_rfl
theorem st52 : Tryz.prog.underlying 116 = some (.struct (Tryz.prog.fieldsOf 116)) := by kernel_rfl
theorem si52 : Tryz.prog.stoodInHeld 116 = false := by kernel_rfl
theorem eqG52 : Tryz.prog.eqGuardType Tryz.prog.depth 116 = false := by kernel_rfl
theorem agg4 (w : World) : (isAgg 4).run Tryz.prog w = .ok false w := by kernel_rfl
theorem agg50 (w : World) : (isAgg 114).run Tryz.prog w = .ok true w := by kernel_rfl
theorem sz50 (w : World) : (sizeOf 114).run Tryz.prog w = .ok 2 w := by kernel_rfl
theorem eqRefN (n : Nat) (a b c d : Int) (w : World) : (Op.equalIn (n + 2) 114 (.agg #[.int .i64 a, .int .i64 b]) (.agg #[.int .i64 c, .int .i64 d])).run Tryz.prog w = .ok ((a == c) && (b == d)) w := by
  rw [run_equalIn_struct w (n + 1) 114 _ _ st56 si56, fields56]
  simp [Op.eqFields, Sem.run_bind, run_equalIn_int _ _ _ _ _ _ _ tU3, part, agg3]
  by_cases h1 : a = c <;> by_cases h2 : b = d <;> simp [h1, h2]
theorem eqEvN (n : Nat) (a b c d : Int) (e f : Bool) (w : World) : (Op.equalIn (n + 3) 116 (.agg #[.int .i64 a, .int .i64 b, .bool e]) (.agg #[.int .i64 c, .int .i64 d, .bool f])).run Tryz.prog w = .ok ((a == c) && (b == d) && (e == f)) w := by
  have e1 : (#[Value.int .i64 a, .int .i64 b, .bool e] : Array Value).extract 0 (0 + 2) = #[.int .i64 a, .int .i64 b] := rfl
  have e2 : (#[Value.int .i64 c, .int .i64 d, .bool f] : Array Value).extract 0 (0 + 2) = #[.int .i64 c, .int .i64 d] := rfl
  rw [run_equalIn_struct w (n + 2) 116 _ _ st52 si52, fields52]
  simp only [Op.eqFields, ne_eq, String.reduceEq, not_false_eq_true, if_true, part, Sem.run_bind, agg50, agg4, sz50, Result.andThen_ok, Sem.run_ite, Sem.run_pure, e1, e2, eqRefN, Bool.false_eq_true, if_false, reduceIte]
  cases h : ((a == c) && (b == d))
  · simp
  · simp [run_equalIn_bool' _ _ _ _ _ tU4]
    cases e <;> cases f <;> rfl
theorem eqEv (a b c d : Int) (e f : Bool) (w : World) : (Op.equal 116 (.agg #[.int .i64 a, .int .i64 b, .bool e]) (.agg #[.int .i64 c, .int .i64 d, .bool f])).run Tryz.prog w = .ok ((a == c) && (b == d) && (e == f)) w := by
  unfold Op.equal Op.maxDepth
  exact eqEvN 9997 a b c d e f w
theorem evEq (x y : Ev) : ((x.tr == y.tr) && (x.id == y.id) && (x.en == y.en)) = decide (x = y) := by
  obtain ⟨a, b, e⟩ := x
  obtain ⟨a2, b2, e2⟩ := y
  by_cases h1 : a = a2 <;> by_cases h2 : b = b2 <;> by_cases h3 : e = e2 <;> simp [h1, h2, h3]
end Go.Proofs.YthlimkmjobpjoaaGreat
namespace Go.Proofs.YthlimkmjobpjoaaGreat
open Go.RowKit Go.Exe
/-! ### the walker -/
def askB (bf : Ev → Ev → Bool) (x y : Ev) : Bool := !(decide (x = y)) && bf x y
abbrev wkO (m : KM) (F : Nat) (caps : List AV) (p : List Sg) : List (Nat × Exe.Obj) := [(0, .box 188 [.im (.mp 3 (kEA m)), .im (.fn F caps), fl (.int .i64 0), .ref 1]), (1, .row 118 (imR (p.map sgA)))]
def okE (x : Ev) : Prop := I64 x.tr ∧ I64 x.id
abbrev BfC (F : Nat) (caps : List AV) (bf : Ev → Ev → Bool) : Prop := ∀ x y : Ev, okE x → okE y → PCall Tryz.prog F (.g ((evA x).map .im) :: .g ((evA y).map .im) :: caps.map fun c => .c (.im c)) (.t [(false, [fl (.bool (bf x y))]), (false, [fl (.int .i64 0)])])
attribute [local irreducible] W AX Run RunD AStep AOp AOpX AStB AStH AStG Fits PCall GCall PostG Post Stop
theorem ask_c (m : KM) (F : Nat) (caps : List AV) (bf : Ev → Ev → Bool) (hbf : BfC F caps bf) (p : List Sg) (x y : Ev) (hx : okE x) (hy : okE y) :
    GCall Tryz.prog 149 2 (St.g [.c (.ptr 0 0), evT x, evT y] (wkO m F caps p) 2) (St.r (ft (.bool (askB bf x y))) (wkO m F caps p) 2) := by
  have c1 := hbf x y hx hy
  clear hx hy
  clear hbf
  unfold askB
  obtain ⟨a, b, e⟩ := x
  obtain ⟨a2, b2, e2⟩ := y
  simp only [evT, evA, List.map] at c1 ⊢
  have hG := eqG52
  have hE := fun w => eqEv a b a2 b2 e e2 w
  have he := evEq ⟨a, b, e⟩ ⟨a2, b2, e2⟩
  simp only at he
  cases h : decide ((⟨a, b, e⟩ : Ev) = ⟨a2, b2, e2⟩)
  · rw [h] at he
    simp only [he] at hE
    refine GCall.introG (nt := 36) (rs := [.tmp 6]) Tryz.func149 rfl ⟨by kernel_rfl, by kernel_rfl, by kernel_rfl⟩ (by simp) ?_
    rintro ⟨P, w0, ok0, may, np, pblk⟩ rfl rfl
    simp only [go_sem]
    repeat' (first | refine W.seq fun K hK => ?_ | refine W.block ?_ | ((first | refine wR ?_ | refine wD ?_ | refine W.skip ?_ | refine W.exit ?_ | refine W.ret (Post.ret ?_) | refine aP ?_ | refine aF ?_ | refine aC ?_ | refine aE ?_ | refine aD ?_); simp only [go_sem, reduceCtorEq, Bool.not_false, Bool.true_and]) | refine wT ?_ | refine wF ?_ | refine wC (fun h => ?_) (fun h => ?_) | refine iK ?_ | refine aI2 ?_ | (refine hK _ ?_; clear hK K) | clear hK K)
    refine W.ret (PostG.ret (Fits.fit [(0, 0), (1, 1)] [6] 2 rfl rfl Fits.rfl) rfl rfl ?_)
    simp only [St.r, go_sem]
  · rw [h] at he
    simp only [he] at hE
    refine GCall.introG (nt := 36) (rs := [.tmp 6]) Tryz.func149 rfl ⟨by kernel_rfl, by kernel_rfl, by kernel_rfl⟩ (by simp) ?_
    rintro ⟨P, w0, ok0, may, np, pblk⟩ rfl rfl
    simp only [go_sem]
    repeat' (first | refine W.seq fun K hK => ?_ | refine W.block ?_ | ((first | refine wR ?_ | refine wD ?_ | refine W.skip ?_ | refine W.exit ?_ | refine W.ret (Post.ret ?_) | refine aP ?_ | refine aF ?_ | refine aC ?_ | refine aE ?_ | refine aD ?_); simp only [go_sem, reduceCtorEq, Bool.not_true, Bool.false_and]) | refine wT ?_ | refine wF ?_ | refine wC (fun h => ?_) (fun h => ?_) | refine iK ?_ | refine aI2 ?_ | (refine hK _ ?_; clear hK K) | clear hK K)
    refine W.ret (PostG.ret (Fits.fit [(0, 0), (1, 1)] [6] 2 rfl rfl Fits.rfl) rfl rfl ?_)
    simp only [St.r, go_sem]
theorem froE_kE (m : KM) : froE (kEA m) = m.map fun y => (Value.int .i64 y.1, false, [Cell.im (.sl 42 (y.2.map spA))]) := by
  rw [froE_map]; simp [kEA, imL]
theorem kEA_get (k : Int) : ∀ m : KM, mget (.int .i64 k) (froE (kEA m)) = (getK m k).map fun l => (false, [.im (.sl 42 (l.map spA))]) := by
  intro m
  rw [froE_kE]
  induction m with
  | nil => rfl
  | cons y r ih =>
    simp only [List.map_cons, mget, getK]
    by_cases h : y.1 = k
    · simp [h]
    · simp [h, ih]
/-- One child looked at. -/
def chStep (bf : Ev → Ev → Bool) (lo cur : Ev) (acc : Option (Spn × Ev)) (k : Spn) : Option (Spn × Ev) :=
  if askB bf (evOf k false) cur && askB bf lo (evOf k true) && askB bf (evOf k false) (evOf k true) then
    let v := if askB bf (evOf k true) cur then evOf k true else cur
    match acc with
    | none => some (k, v)
    | some y => if askB bf y.2 v then some (k, v) else some y
  else acc
def chooseF (bf : Ev → Ev → Bool) (l : List Spn) (lo cur : Ev) : Option (Spn × Ev) := l.foldl (chStep bf lo cur) none
def chS : Option (Spn × Ev) → List Cell
  | none => zSpn
  | some y => (spA y.1).map .im
def chE : Option (Spn × Ev) → List Cell
  | none => [fl (.int .i64 0), fl (.int .i64 0), fl (.bool false)]
  | some y => (evA y.2).map .im
abbrev chT (a : Option (Spn × Ev)) : TV := .t [(true, chS a), (true, chE a), (false, [fl (.bool a.isSome)])]
end Go.Proofs.YthlimkmjobpjoaaGreat
namespace Go.Proofs.YthlimkmjobpjoaaGreat
open Go.RowKit Go.Exe
theorem getK_le {N : Nat} {m : KM} (h : ∀ y ∈ m, y.2.length ≤ N) (k : Int) : ((getK m k).getD []).length ≤ N := by
  induction m with
  | nil => simp [getK]
  | cons y r ih =>
    simp only [getK]
    split
    · exact h y (by simp)
    · exact ih fun z hz => h z (by simp [hz])
theorem getK_mem {m : KM} {k : Int} {s : Spn} (h : s ∈ (getK m k).getD []) : ∃ y ∈ m, s ∈ y.2 := by
  induction m with
  | nil => simp [getK] at h
  | cons y r ih =>
    simp only [getK] at h
    split at h
    · exact ⟨y, by simp, h⟩
    · obtain ⟨z, hz, h2⟩ := ih h
      exact ⟨z, by simp [hz], h2⟩
theorem rnCs_chS (r : Ren) (a : Option (Spn × Ev)) : rnCs r (chS a) = chS a := by cases a <;> rfl
theorem rnCs_chE (r : Ren) (a : Option (Spn × Ev)) : rnCs r (chE a) = chE a := by cases a <;> rfl
theorem outF {P : Program} {f np : Nat} {s0 s1 s1' : St} (h : GCall P f np s0 s1) (hf : ∀ C : Ctx, C.P = P → C.np = np → Fits C s1 s1') : GCall P f np s0 s1' :=
  ⟨h.1, fun C hC hnp vs w L hs => (h.2 C hC hnp vs w L hs).mono fun e w' ⟨v, L', h1, h2⟩ => by
    obtain ⟨L2, h3⟩ := hf C hC hnp _ _ ⟨L', h2⟩
    exact ⟨v, L2, h1, h3⟩⟩
theorem chStep_eq (bf : Ev → Ev → Bool) (lo cur : Ev) (acc : Option (Spn × Ev)) (k : Spn) : chStep bf lo cur acc k = if askB bf (evOf k false) cur && askB bf lo (evOf k true) && askB bf (evOf k false) (evOf k true) then
    (match acc with
    | none => some (k, if askB bf (evOf k true) cur then evOf k true else cur)
    | some y => if askB bf y.2 (if askB bf (evOf k true) cur then evOf k true else cur) then some (k, if askB bf (evOf k true) cur then evOf k true else cur) else some y)
  else acc := rfl
attribute [local irreducible] W AX Run RunD AStep AOp AOpX AStB AStH AStG Fits PCall GCall PostG Post Stop
theorem choose0_c (m : KM) (hI : ∀ y ∈ m, y.2.length ≤ 140737488355328) (F : Nat) (caps : List AV) (bf : Ev → Ev → Bool) (hbf : BfC F caps bf) (p : List Sg) (s : Spn) (lo cur : Ev) (hid : I64 s.id) (hlo : okE lo) (hcur : okE cur) (hkk : ∀ y ∈ m, ∀ z ∈ y.2, I64 z.tr ∧ I64 z.id) :
    GCall Tryz.prog 150 2 (St.g [.c (.ptr 0 0), spT s, evT lo, evT cur] (wkO m F caps p) 2) (St.r (chT (chooseF bf ((getK m s.id).getD []) lo cur)) (wkO m F caps p ++ [(2, .box 42 (chS (chooseF bf ((getK m s.id).getD []) lo cur))), (3, .box 116 (chE (chooseF bf ((getK m s.id).getD []) lo cur)))]) 4) := by
  have c37 := event_c
  have ca := ask_c m F caps bf hbf p
  clear hbf
  have hko := koI hid
  have hg := kEA_get s.id m
  simp only [spT, spA, evT, evA, List.map]
  refine GCall.introG (nt := 71) (rs := [.cell 8 42, .cell 9 116, .tmp 10]) Tryz.func150 rfl ⟨by kernel_rfl, by kernel_rfl, by kernel_rfl⟩ (by simp) ?_
  rintro ⟨P, w0, ok0, may, np, pblk⟩ rfl rfl
  simp only [go_sem]
  repeat' (first | refine W.stop (id := 1) ?_ | refine W.seq fun K hK => ?_ | refine W.block ?_ | ((first | refine wR ?_ | refine wD ?_ | refine W.skip ?_ | refine W.exit ?_ | refine W.ret (Post.ret ?_) | refine aP ?_ | refine aF ?_ | refine aL ?_ | refine aU ?_ | refine aM ?_ | refine aN ?_ | refine aR ?_); simp only [go_sem, reduceCtorEq]) | refine wT ?_ | refine wF ?_ | refine wC (fun h => ?_) (fun h => ?_) | refine iK ?_ | refine aI2 ?_ | (refine hK _ ?_; clear hK K) | clear hK K)
  refine Stop.out ?_
  obtain ⟨L, hL⟩ : ∃ l, l = (getK m s.id).getD [] := ⟨_, rfl⟩
  have hLl : L.length ≤ 140737488355328 := by rw [hL]; exact getK_le hI s.id
  have hLk : ∀ z ∈ L, I64 z.tr ∧ I64 z.id := fun z hz => by
    obtain ⟨y, hy, h⟩ := getK_mem (hL ▸ hz)
    exact hkk y hy z h
  clear hkk
  have hK2 : ∀ s1, Fits { P := Tryz.prog, w0 := w0, ok0 := ok0, may := may, np := 2, pblk := pblk } s1 { t := [(0, .c (.ptr 0 0)), (6, .c (.ptr 2 0)), (7, .c (.ptr 3 0)), (8, .c (.ptr 4 0)), (9, .c (.ptr 5 0)), (10, ft (.bool false)), (20, .c (.im (.sl 42 (L.map spA)))), (21, ft (.int .i64 L.length)), (22, ft (.int .i64 0))], h := wkO m F caps p ++ [(2, .box 116 ((evA lo).map .im)), (3, .box 116 ((evA cur).map .im)), (4, .box 42 zSpn), (5, .box 116 (chE none))], nx := 6, ex := [], nt := 71 } → K s1 := by
    intro s1 hf
    refine hK _ (W.fits hf ?_)
    clear hf hK K
    repeat' (first | refine W.seq fun K hK => ?_ | refine W.block ?_ | ((first | refine wR ?_ | refine wD ?_ | refine W.skip ?_ | refine W.exit ?_ | refine W.ret (Post.ret ?_) | refine aP ?_ | refine aF ?_ | refine aL ?_ | refine aU ?_ | refine aM ?_ | refine aN ?_ | refine aR ?_); simp only [go_sem, reduceCtorEq]) | refine wT ?_ | refine wF ?_ | refine wC (fun h => ?_) (fun h => ?_) | refine iK ?_ | refine aI2 ?_ | (refine hK _ ?_; clear hK K) | clear hK K)
    refine W.loopF (T := fun x : Nat × Option (Spn × Ev) => { t := [(0, .c (.ptr 0 0)), (6, .c (.ptr 2 0)), (7, .c (.ptr 3 0)), (8, .c (.ptr 4 0)), (9, .c (.ptr 5 0)), (10, ft (.bool x.2.isSome)), (20, .c (.im (.sl 42 (L.map spA)))), (21, ft (.int .i64 L.length)), (22, ft (.int .i64 (x.1 : Nat)))], h := wkO m F caps p ++ [(2, .box 116 ((evA lo).map .im)), (3, .box 116 ((evA cur).map .im)), (4, .box 42 (chS x.2)), (5, .box 116 (chE x.2))], nx := 6, ex := [], nt := 71 })
      (Inv := fun x => x.1 ≤ L.length ∧ x.2 = (L.take x.1).foldl (chStep bf lo cur) none ∧ ∀ y, x.2 = some y → okE y.2) (μ := fun x => L.length - x.1) (x0 := (0, none)) Fits.rfl ⟨Nat.zero_le _, rfl, by simp⟩ ?_
    rintro ⟨i, acc⟩ ⟨hi, hacc, hok⟩ KL hKL
    simp only at hi hacc hok
    by_cases hlt : i < L.length
    · obtain ⟨k, hx, hm, hd⟩ := drop_at hlt
      have e1 : decide ((i : Int) < L.length) = true := by simp; omega
      have hw := w64s i (by omega)
      have hstep : (L.take (i + 1)).foldl (chStep bf lo cur) none = chStep bf lo cur acc k := by
        rw [List.take_add_one, hx, List.foldl_append, ← hacc]; rfl
      clear hg hL
      have cs := c37 k false
      have ce := c37 k true
      clear c37
      have hf := hLk k hm
      have ht := hLk k hm
      have a1 := ca (evOf k false) cur hf hcur
      have a2 := ca lo (evOf k true) hlo ht
      have a3 := ca (evOf k false) (evOf k true) hf ht
      have a4 := ca (evOf k true) cur ht hcur
      have hs2 := chStep_eq bf lo cur acc k
      simp only [spT, spA, evT, evA, evOf, List.map] at cs ce a1 a2 a3 a4
      generalize hA1 : askB bf (evOf k false) cur = A1 at *
      generalize hA2 : askB bf lo (evOf k true) = A2 at *
      generalize hA3 : askB bf (evOf k false) (evOf k true) = A3 at *
      generalize hA4 : askB bf (evOf k true) cur = A4 at *
      simp only [evOf] at hA1 hA2 hA3 hA4
      rw [hA1] at a1
      rw [hA2] at a2
      rw [hA3] at a3
      rw [hA4] at a4
      clear hA1 hA2 hA3 hA4
      repeat' (first | refine W.stop (id := 4) ?_ | refine W.seq fun K hK => ?_ | refine W.block ?_ | ((first | refine wR ?_ | refine wD ?_ | refine W.skip ?_ | refine W.exit ?_ | refine W.ret (Post.ret ?_) | refine aP ?_ | refine aF ?_ | refine aL ?_ | refine aU (hnn := by simp only [go_sem, reduceCtorEq, List.getElem?_map, hx, spA, e1]) ?_ | refine aM ?_ | refine aN ?_ | refine aR ?_); simp only [go_sem, reduceCtorEq, List.getElem?_map, hx, spA, e1]) | refine wT ?_ | refine wF ?_ | refine wC (fun h => ?_) (fun h => ?_) | refine iK ?_ | refine aI2 ?_ | (refine hK _ ?_; clear hK K) | clear hK K)
      refine Stop.out ?_
      refine W.fits (s' := { t := [(0, .c (.ptr 0 0)), (6, .c (.ptr 2 0)), (7, .c (.ptr 3 0)), (8, .c (.ptr 4 0)), (9, .c (.ptr 5 0)), (10, ft (.bool (acc).isSome)), (12, .c (.ptr 6 0)), (20, .c (.im (.sl 42 (L.map spA)))), (21, ft (.int .i64 L.length)), (22, ft (.int .i64 (i : Nat)))], h := wkO m F caps p ++ [(2, .box 116 ((evA lo).map .im)), (3, .box 116 ((evA cur).map .im)), (4, .box 42 (chS acc)), (5, .box 116 (chE acc)), (6, .box 42 ((spA k).map .im))], nx := 7, ex := [], nt := 71 }) ?_ ?_
      · refine Fits.fit [(0, 0), (1, 1), (2, 2), (3, 3), (4, 4), (5, 5), (9, 6)] [0, 6, 7, 8, 9, 10, 12, 20, 21, 22] 7 rfl rfl ?_
        simp only [go_sem, rnCs_chS, rnCs_chE, evA, List.map]
        exact Fits.rfl
      have hKF : chStep bf lo cur acc k = acc → ∀ s1, Fits { P := Tryz.prog, w0 := w0, ok0 := ok0, may := may, np := 2, pblk := pblk } s1 { t := [(0, .c (.ptr 0 0)), (6, .c (.ptr 2 0)), (7, .c (.ptr 3 0)), (8, .c (.ptr 4 0)), (9, .c (.ptr 5 0)), (10, ft (.bool (acc).isSome)), (12, .c (.ptr 6 0)), (20, .c (.im (.sl 42 (L.map spA)))), (21, ft (.int .i64 L.length)), (22, ft (.int .i64 (i : Nat))), (48, ft (.bool true))], h := wkO m F caps p ++ [(2, .box 116 ((evA lo).map .im)), (3, .box 116 ((evA cur).map .im)), (4, .box 42 (chS acc)), (5, .box 116 (chE acc)), (6, .box 42 ((spA k).map .im))], nx := 7, ex := [], nt := 71 } → K s1 := by
        intro h2 s1 hf
        refine hK _ (W.fits hf ?_)
        clear hf hK K
        simp only [spA, evA, evOf, List.map, List.cons_append, List.nil_append]
        repeat' (first | refine W.seq fun K hK => ?_ | refine W.block ?_ | ((first | refine wR ?_ | refine wD ?_ | refine W.skip ?_ | refine W.exit ?_ | refine W.ret (Post.ret ?_) | refine aP ?_ | refine aF ?_ | refine aL ?_ | refine aU (hnn := by simp only [go_sem, reduceCtorEq, hw]) ?_ | refine aM ?_ | refine aN ?_ | refine aR ?_); simp only [go_sem, reduceCtorEq, hw]) | refine wT ?_ | refine wF ?_ | refine wC (fun h => ?_) (fun h => ?_) | refine iK ?_ | refine aI2 ?_ | (refine hK _ ?_; clear hK K) | clear hK K)
        refine hKL.to (i + 1, acc) ⟨by simp only; omega, by simp only; rw [hstep, h2], hok⟩ (by simp only; omega) (Fits.fit [(0, 0), (1, 1), (2, 2), (3, 3), (4, 4), (5, 5)] [0, 6, 7, 8, 9, 10, 20, 21, 22] 6 rfl rfl ?_)
        simp only [go_sem, rnCs_chS, rnCs_chE, spA, evA, evOf, List.map, Option.isSome_none, Option.isSome_some]
        exact Fits.rfl
      cases A1 with
      | false =>
        have h2 : chStep bf lo cur acc k = acc := by rw [hs2]; rfl
        clear hK hKL
        simp only [spA, evA, evOf, List.map, List.cons_append, List.nil_append]
        repeat' (first | refine W.seq fun K hK => ?_ | refine W.block ?_ | ((first | refine wR ?_ | refine wD ?_ | refine W.skip ?_ | refine W.exit ?_ | refine W.ret (Post.ret ?_) | refine aP ?_ | refine aF ?_ | refine aL ?_ | refine aU ?_ | refine aM ?_ | refine aN ?_ | refine aR ?_); simp only [go_sem, reduceCtorEq]) | refine wT ?_ | refine wF ?_ | refine wC (fun h => ?_) (fun h => ?_) | refine iK ?_ | refine aI2 ?_ | (refine hK _ ?_; clear hK K) | clear hK K)
        refine AX.gcall [0, 1] rfl rfl (a1) (by simp only [go_sem, reduceCtorEq]) (by simp only [go_sem, reduceCtorEq]) rfl rfl (by simp only [go_sem, Obj.owns]) rfl (by simp only [go_sem, Obj.owns]) rfl rfl ?_
        simp only [go_sem, reduceCtorEq]
        repeat' (first | refine W.seq fun K hK => ?_ | refine W.block ?_ | ((first | refine wR ?_ | refine wD ?_ | refine W.skip ?_ | refine W.exit ?_ | refine W.ret (Post.ret ?_) | refine aP ?_ | refine aF ?_ | refine aL ?_ | refine aU ?_ | refine aM ?_ | refine aN ?_ | refine aR ?_); simp only [go_sem, reduceCtorEq]) | refine wT ?_ | refine wF ?_ | refine wC (fun h => ?_) (fun h => ?_) | refine iK ?_ | refine aI2 ?_ | (refine hK _ ?_; clear hK K) | clear hK K)
        refine hKF h2 _ (Fits.fit [(0, 0), (1, 1), (2, 2), (3, 3), (4, 4), (5, 5), (6, 6)] [0, 6, 7, 8, 9, 10, 12, 20, 21, 22, 48] 7 rfl rfl ?_)
        simp only [go_sem, rnCs_chS, rnCs_chE, spA, evA, evOf, List.map]
        exact Fits.rfl
      | true =>
      cases A2 with
      | false =>
        have h2 : chStep bf lo cur acc k = acc := by rw [hs2]; rfl
        clear hK hKL
        simp only [spA, evA, evOf, List.map, List.cons_append, List.nil_append]
        repeat' (first | refine W.seq fun K hK => ?_ | refine W.block ?_ | ((first | refine wR ?_ | refine wD ?_ | refine W.skip ?_ | refine W.exit ?_ | refine W.ret (Post.ret ?_) | refine aP ?_ | refine aF ?_ | refine aL ?_ | refine aU ?_ | refine aM ?_ | refine aN ?_ | refine aR ?_); simp only [go_sem, reduceCtorEq]) | refine wT ?_ | refine wF ?_ | refine wC (fun h => ?_) (fun h => ?_) | refine iK ?_ | refine aI2 ?_ | (refine hK _ ?_; clear hK K) | clear hK K)
        refine AX.gcall [0, 1] rfl rfl (a1) (by simp only [go_sem, reduceCtorEq]) (by simp only [go_sem, reduceCtorEq]) rfl rfl (by simp only [go_sem, Obj.owns]) rfl (by simp only [go_sem, Obj.owns]) rfl rfl ?_
        simp only [go_sem, reduceCtorEq]
        repeat' (first | refine W.seq fun K hK => ?_ | refine W.block ?_ | ((first | refine wR ?_ | refine wD ?_ | refine W.skip ?_ | refine W.exit ?_ | refine W.ret (Post.ret ?_) | refine aP ?_ | refine aF ?_ | refine aL ?_ | refine aU ?_ | refine aM ?_ | refine aN ?_ | refine aR ?_); simp only [go_sem, reduceCtorEq]) | refine wT ?_ | refine wF ?_ | refine wC (fun h => ?_) (fun h => ?_) | refine iK ?_ | refine aI2 ?_ | (refine hK _ ?_; clear hK K) | clear hK K)
        refine AX.gcall [0, 1] rfl rfl (a2) (by simp only [go_sem, reduceCtorEq]) (by simp only [go_sem, reduceCtorEq]) rfl rfl (by simp only [go_sem, Obj.owns]) rfl (by simp only [go_sem, Obj.owns]) rfl rfl ?_
        simp only [go_sem, reduceCtorEq]
        repeat' (first | refine W.seq fun K hK => ?_ | refine W.block ?_ | ((first | refine wR ?_ | refine wD ?_ | refine W.skip ?_ | refine W.exit ?_ | refine W.ret (Post.ret ?_) | refine aP ?_ | refine aF ?_ | refine aL ?_ | refine aU ?_ | refine aM ?_ | refine aN ?_ | refine aR ?_); simp only [go_sem, reduceCtorEq]) | refine wT ?_ | refine wF ?_ | refine wC (fun h => ?_) (fun h => ?_) | refine iK ?_ | refine aI2 ?_ | (refine hK _ ?_; clear hK K) | clear hK K)
        refine hKF h2 _ (Fits.fit [(0, 0), (1, 1), (2, 2), (3, 3), (4, 4), (5, 5), (6, 6)] [0, 6, 7, 8, 9, 10, 12, 20, 21, 22, 48] 7 rfl rfl ?_)
        simp only [go_sem, rnCs_chS, rnCs_chE, spA, evA, evOf, List.map]
        exact Fits.rfl
      | true =>
      cases A3 with
      | false =>
        have h2 : chStep bf lo cur acc k = acc := by rw [hs2]; rfl
        clear hK hKL
        simp only [spA, evA, evOf, List.map, List.cons_append, List.nil_append]
        repeat' (first | refine W.seq fun K hK => ?_ | refine W.block ?_ | ((first | refine wR ?_ | refine wD ?_ | refine W.skip ?_ | refine W.exit ?_ | refine W.ret (Post.ret ?_) | refine aP ?_ | refine aF ?_ | refine aL ?_ | refine aU ?_ | refine aM ?_ | refine aN ?_ | refine aR ?_); simp only [go_sem, reduceCtorEq]) | refine wT ?_ | refine wF ?_ | refine wC (fun h => ?_) (fun h => ?_) | refine iK ?_ | refine aI2 ?_ | (refine hK _ ?_; clear hK K) | clear hK K)
        refine AX.gcall [0, 1] rfl rfl (a1) (by simp only [go_sem, reduceCtorEq]) (by simp only [go_sem, reduceCtorEq]) rfl rfl (by simp only [go_sem, Obj.owns]) rfl (by simp only [go_sem, Obj.owns]) rfl rfl ?_
        simp only [go_sem, reduceCtorEq]
        repeat' (first | refine W.seq fun K hK => ?_ | refine W.block ?_ | ((first | refine wR ?_ | refine wD ?_ | refine W.skip ?_ | refine W.exit ?_ | refine W.ret (Post.ret ?_) | refine aP ?_ | refine aF ?_ | refine aL ?_ | refine aU ?_ | refine aM ?_ | refine aN ?_ | refine aR ?_); simp only [go_sem, reduceCtorEq]) | refine wT ?_ | refine wF ?_ | refine wC (fun h => ?_) (fun h => ?_) | refine iK ?_ | refine aI2 ?_ | (refine hK _ ?_; clear hK K) | clear hK K)
        refine AX.gcall [0, 1] rfl rfl (a2) (by simp only [go_sem, reduceCtorEq]) (by simp only [go_sem, reduceCtorEq]) rfl rfl (by simp only [go_sem, Obj.owns]) rfl (by simp only [go_sem, Obj.owns]) rfl rfl ?_
        simp only [go_sem, reduceCtorEq]
        repeat' (first | refine W.seq fun K hK => ?_ | refine W.block ?_ | ((first | refine wR ?_ | refine wD ?_ | refine W.skip ?_ | refine W.exit ?_ | refine W.ret (Post.ret ?_) | refine aP ?_ | refine aF ?_ | refine aL ?_ | refine aU ?_ | refine aM ?_ | refine aN ?_ | refine aR ?_); simp only [go_sem, reduceCtorEq]) | refine wT ?_ | refine wF ?_ | refine wC (fun h => ?_) (fun h => ?_) | refine iK ?_ | refine aI2 ?_ | (refine hK _ ?_; clear hK K) | clear hK K)
        refine AX.gcall [0, 1] rfl rfl (a3) (by simp only [go_sem, reduceCtorEq]) (by simp only [go_sem, reduceCtorEq]) rfl rfl (by simp only [go_sem, Obj.owns]) rfl (by simp only [go_sem, Obj.owns]) rfl rfl ?_
        simp only [go_sem, reduceCtorEq]
        repeat' (first | refine W.seq fun K hK => ?_ | refine W.block ?_ | ((first | refine wR ?_ | refine wD ?_ | refine W.skip ?_ | refine W.exit ?_ | refine W.ret (Post.ret ?_) | refine aP ?_ | refine aF ?_ | refine aL ?_ | refine aU ?_ | refine aM ?_ | refine aN ?_ | refine aR ?_); simp only [go_sem, reduceCtorEq]) | refine wT ?_ | refine wF ?_ | refine wC (fun h => ?_) (fun h => ?_) | refine iK ?_ | refine aI2 ?_ | (refine hK _ ?_; clear hK K) | clear hK K)
        refine hKF h2 _ (Fits.fit [(0, 0), (1, 1), (2, 2), (3, 3), (4, 4), (5, 5), (6, 6)] [0, 6, 7, 8, 9, 10, 12, 20, 21, 22, 48] 7 rfl rfl ?_)
        simp only [go_sem, rnCs_chS, rnCs_chE, spA, evA, evOf, List.map]
        exact Fits.rfl
      | true =>
      clear hKF
      simp only [Bool.and_self, if_true] at hs2
      have hKT : ∀ s1, Fits { P := Tryz.prog, w0 := w0, ok0 := ok0, may := may, np := 2, pblk := pblk } s1 { t := [(0, .c (.ptr 0 0)), (6, .c (.ptr 2 0)), (7, .c (.ptr 3 0)), (8, .c (.ptr 4 0)), (9, .c (.ptr 5 0)), (10, ft (.bool (acc).isSome)), (12, .c (.ptr 6 0)), (20, .c (.im (.sl 42 (L.map spA)))), (21, ft (.int .i64 L.length)), (22, ft (.int .i64 (i : Nat))), (48, ft (.bool false))], h := wkO m F caps p ++ [(2, .box 116 ((evA lo).map .im)), (3, .box 116 ((evA cur).map .im)), (4, .box 42 (chS acc)), (5, .box 116 (chE acc)), (6, .box 42 ((spA k).map .im))], nx := 7, ex := [], nt := 71 } → K s1 := by
        intro s1 hf
        refine hK _ (W.fits hf ?_)
        clear hf hK K a1 a2 a3
        simp only [spA, evA, evOf, List.map, List.cons_append, List.nil_append]
        repeat' (first | refine W.stop (id := 6) ?_ | refine W.seq fun K hK => ?_ | refine W.block ?_ | ((first | refine wR ?_ | refine wD ?_ | refine W.skip ?_ | refine W.exit ?_ | refine W.ret (Post.ret ?_) | refine aP ?_ | refine aF ?_ | refine aL ?_ | refine aU (hnn := by simp only [go_sem, reduceCtorEq, hw]) ?_ | refine aM ?_ | refine aN ?_ | refine aR ?_); simp only [go_sem, reduceCtorEq, hw]) | refine wT ?_ | refine wF ?_ | refine wC (fun h => ?_) (fun h => ?_) | refine iK ?_ | refine aI2 ?_ | (refine hK _ ?_; clear hK K) | clear hK K)
        refine Stop.out ?_
        obtain ⟨e, he⟩ : ∃ e, e = if A4 = true then evOf k true else cur := ⟨_, rfl⟩
        have heo : okE e := by
          rw [he]
          split
          · exact ht
          · exact hcur
        rw [← he] at hs2
        have a7 : ∀ y, acc = some y → GCall Tryz.prog 149 2 (St.g [.c (.ptr 0 0), evT y.2, evT e] (wkO m F caps p) 2) (St.r (ft (.bool (askB bf y.2 e))) (wkO m F caps p) 2) := fun y hy => ca y.2 e (hok y hy) heo
        have hoke : ∀ y, some (k, e) = some y → okE y.2 := fun y hy => by cases hy; exact heo
        clear ca
        repeat' (first | refine W.seq fun K hK => ?_ | refine W.block ?_ | ((first | refine wR ?_ | refine wD ?_ | refine W.skip ?_ | refine W.exit ?_ | refine W.ret (Post.ret ?_) | refine aP ?_ | refine aF ?_ | refine aL ?_ | refine aU (hnn := by simp only [go_sem, reduceCtorEq, hw]) ?_ | refine aM ?_ | refine aN ?_ | refine aR ?_); simp only [go_sem, reduceCtorEq, hw]) | refine wT ?_ | refine wF ?_ | refine wC (fun h => ?_) (fun h => ?_) | refine iK ?_ | refine aI2 ?_ | (refine hK _ ?_; clear hK K) | clear hK K)
        refine AX.gcall [0, 1] rfl rfl (a4) (by simp only [go_sem, reduceCtorEq]) (by simp only [go_sem, reduceCtorEq]) rfl rfl (by simp only [go_sem, Obj.owns]) rfl (by simp only [go_sem, Obj.owns]) rfl rfl ?_
        simp only [go_sem, reduceCtorEq]
        repeat' (first | refine iK ?_ | refine aI2 ?_)
        refine hK _ ?_
        clear hK K
        have hK8 : ∀ s1, Fits { P := Tryz.prog, w0 := w0, ok0 := ok0, may := may, np := 2, pblk := pblk } s1 { t := [(0, .c (.ptr 0 0)), (6, .c (.ptr 2 0)), (7, .c (.ptr 3 0)), (8, .c (.ptr 4 0)), (9, .c (.ptr 5 0)), (10, ft (.bool (acc).isSome)), (12, .c (.ptr 6 0)), (13, .c (.ptr 7 0)), (20, .c (.im (.sl 42 (L.map spA)))), (21, ft (.int .i64 L.length)), (22, ft (.int .i64 (i : Nat)))], h := wkO m F caps p ++ [(2, .box 116 ((evA lo).map .im)), (3, .box 116 ((evA cur).map .im)), (4, .box 42 (chS acc)), (5, .box 116 (chE acc)), (6, .box 42 ((spA k).map .im)), (7, .box 116 ((evA e).map .im))], nx := 8, ex := [], nt := 71 } → K s1 := by
          intro s1 hf
          refine hK _ (W.fits hf ?_)
          clear hf hK K a4 hx hm hd
          cases acc with
          | none =>
            simp only at hs2
            simp only [chS, chE, zSpn, Option.isSome_none, spA, evA, evOf, List.map, List.cons_append, List.nil_append]
            repeat' (first | refine W.seq fun K hK => ?_ | refine W.block ?_ | ((first | refine wR ?_ | refine wD ?_ | refine W.skip ?_ | refine W.exit ?_ | refine W.ret (Post.ret ?_) | refine aP ?_ | refine aF ?_ | refine aL ?_ | refine aU (hnn := by simp only [go_sem, reduceCtorEq, hw]) ?_ | refine aM ?_ | refine aN ?_ | refine aR ?_); simp only [go_sem, reduceCtorEq, hw]) | refine wT ?_ | refine wF ?_ | refine wC (fun h => ?_) (fun h => ?_) | refine iK ?_ | refine aI2 ?_ | (refine hK _ ?_; clear hK K) | clear hK K)
            refine hKL.to (i + 1, some (k, e)) ⟨by simp only; omega, by simp only; rw [hstep, hs2], hoke⟩ (by simp only; omega) (Fits.fit [(0, 0), (1, 1), (2, 2), (3, 3), (4, 4), (5, 5)] [0, 6, 7, 8, 9, 10, 20, 21, 22] 6 rfl rfl ?_)
            simp only [go_sem, rnCs_chS, rnCs_chE, spA, evA, evOf, List.map, Option.isSome_none, Option.isSome_some, chS, chE]
            exact Fits.rfl
          | some y =>
            obtain ⟨z, u⟩ := y
            have a8 := a7 _ rfl
            clear a7
            simp only at hs2
            generalize askB bf u e = A5 at *
            simp only [spT, spA, evT, evA, evOf, List.map] at a8
            cases A5 with
            | false =>
              simp only [Bool.false_eq_true, if_false] at hs2
              simp only [chS, chE, zSpn, Option.isSome_some, spA, evA, evOf, List.map, List.cons_append, List.nil_append]
              repeat' (first | refine W.seq fun K hK => ?_ | refine W.block ?_ | ((first | refine wR ?_ | refine wD ?_ | refine W.skip ?_ | refine W.exit ?_ | refine W.ret (Post.ret ?_) | refine aP ?_ | refine aF ?_ | refine aL ?_ | refine aU (hnn := by simp only [go_sem, reduceCtorEq, hw]) ?_ | refine aM ?_ | refine aN ?_ | refine aR ?_); simp only [go_sem, reduceCtorEq, hw]) | refine wT ?_ | refine wF ?_ | refine wC (fun h => ?_) (fun h => ?_) | refine iK ?_ | refine aI2 ?_ | (refine hK _ ?_; clear hK K) | clear hK K)
              refine AX.gcall [0, 1] rfl rfl (a8) (by simp only [go_sem, reduceCtorEq]) (by simp only [go_sem, reduceCtorEq]) rfl rfl (by simp only [go_sem, Obj.owns]) rfl (by simp only [go_sem, Obj.owns]) rfl rfl ?_
              simp only [go_sem, reduceCtorEq]
              repeat' (first | refine W.seq fun K hK => ?_ | refine W.block ?_ | ((first | refine wR ?_ | refine wD ?_ | refine W.skip ?_ | refine W.exit ?_ | refine W.ret (Post.ret ?_) | refine aP ?_ | refine aF ?_ | refine aL ?_ | refine aU (hnn := by simp only [go_sem, reduceCtorEq, hw]) ?_ | refine aM ?_ | refine aN ?_ | refine aR ?_); simp only [go_sem, reduceCtorEq, hw]) | refine wT ?_ | refine wF ?_ | refine wC (fun h => ?_) (fun h => ?_) | refine iK ?_ | refine aI2 ?_ | (refine hK _ ?_; clear hK K) | clear hK K)
              refine hKL.to (i + 1, some (z, u)) ⟨by simp only; omega, by simp only; rw [hstep, hs2], hok⟩ (by simp only; omega) (Fits.fit [(0, 0), (1, 1), (2, 2), (3, 3), (4, 4), (5, 5)] [0, 6, 7, 8, 9, 10, 20, 21, 22] 6 rfl rfl ?_)
              simp only [go_sem, rnCs_chS, rnCs_chE, spA, evA, evOf, List.map, Option.isSome_none, Option.isSome_some, chS, chE]
              exact Fits.rfl
            | true =>
              simp only [if_true] at hs2
              simp only [chS, chE, zSpn, Option.isSome_some, spA, evA, evOf, List.map, List.cons_append, List.nil_append]
              repeat' (first | refine W.seq fun K hK => ?_ | refine W.block ?_ | ((first | refine wR ?_ | refine wD ?_ | refine W.skip ?_ | refine W.exit ?_ | refine W.ret (Post.ret ?_) | refine aP ?_ | refine aF ?_ | refine aL ?_ | refine aU (hnn := by simp only [go_sem, reduceCtorEq, hw]) ?_ | refine aM ?_ | refine aN ?_ | refine aR ?_); simp only [go_sem, reduceCtorEq, hw]) | refine wT ?_ | refine wF ?_ | refine wC (fun h => ?_) (fun h => ?_) | refine iK ?_ | refine aI2 ?_ | (refine hK _ ?_; clear hK K) | clear hK K)
              refine AX.gcall [0, 1] rfl rfl (a8) (by simp only [go_sem, reduceCtorEq]) (by simp only [go_sem, reduceCtorEq]) rfl rfl (by simp only [go_sem, Obj.owns]) rfl (by simp only [go_sem, Obj.owns]) rfl rfl ?_
              simp only [go_sem, reduceCtorEq]
              repeat' (first | refine W.seq fun K hK => ?_ | refine W.block ?_ | ((first | refine wR ?_ | refine wD ?_ | refine W.skip ?_ | refine W.exit ?_ | refine W.ret (Post.ret ?_) | refine aP ?_ | refine aF ?_ | refine aL ?_ | refine aU (hnn := by simp only [go_sem, reduceCtorEq, hw]) ?_ | refine aM ?_ | refine aN ?_ | refine aR ?_); simp only [go_sem, reduceCtorEq, hw]) | refine wT ?_ | refine wF ?_ | refine wC (fun h => ?_) (fun h => ?_) | refine iK ?_ | refine aI2 ?_ | (refine hK _ ?_; clear hK K) | clear hK K)
              refine hKL.to (i + 1, some (k, e)) ⟨by simp only; omega, by simp only; rw [hstep, hs2], hoke⟩ (by simp only; omega) (Fits.fit [(0, 0), (1, 1), (2, 2), (3, 3), (4, 4), (5, 5)] [0, 6, 7, 8, 9, 10, 20, 21, 22] 6 rfl rfl ?_)
              simp only [go_sem, rnCs_chS, rnCs_chE, spA, evA, evOf, List.map, Option.isSome_none, Option.isSome_some, chS, chE]
              exact Fits.rfl
        clear hK hKL hs2 hstep a7
        cases A4 with
        | false =>
          simp only [Bool.false_eq_true, if_false] at he
          subst he
          repeat' (first | refine W.seq fun K hK => ?_ | refine W.block ?_ | ((first | refine wR ?_ | refine wD ?_ | refine W.skip ?_ | refine W.exit ?_ | refine W.ret (Post.ret ?_) | refine aP ?_ | refine aF ?_ | refine aL ?_ | refine aU ?_ | refine aM ?_ | refine aN ?_ | refine aR ?_); simp only [go_sem, reduceCtorEq]) | refine wT ?_ | refine wF ?_ | refine wC (fun h => ?_) (fun h => ?_) | refine iK ?_ | refine aI2 ?_ | (refine hK _ ?_; clear hK K) | clear hK K)
          refine hK8 _ (Fits.fit [(0, 0), (1, 1), (2, 2), (3, 3), (4, 4), (5, 5), (6, 6), (8, 7)] [0, 6, 7, 8, 9, 10, 12, 13, 20, 21, 22] 8 rfl rfl ?_)
          simp only [go_sem, rnCs_chS, rnCs_chE, spA, evA, evOf, List.map]
          exact Fits.rfl
        | true =>
          simp only [if_true] at he
          subst he
          repeat' (first | refine W.seq fun K hK => ?_ | refine W.block ?_ | ((first | refine wR ?_ | refine wD ?_ | refine W.skip ?_ | refine W.exit ?_ | refine W.ret (Post.ret ?_) | refine aP ?_ | refine aF ?_ | refine aL ?_ | refine aU ?_ | refine aM ?_ | refine aN ?_ | refine aR ?_); simp only [go_sem, reduceCtorEq]) | refine wT ?_ | refine wF ?_ | refine wC (fun h => ?_) (fun h => ?_) | refine iK ?_ | refine aI2 ?_ | (refine hK _ ?_; clear hK K) | clear hK K)
          refine hK8 _ (Fits.fit [(0, 0), (1, 1), (2, 2), (3, 3), (4, 4), (5, 5), (6, 6), (8, 7)] [0, 6, 7, 8, 9, 10, 12, 13, 20, 21, 22] 8 rfl rfl ?_)
          simp only [go_sem, rnCs_chS, rnCs_chE, spA, evA, evOf, List.map]
          exact Fits.rfl
      clear hKL hs2 hK
      simp only [spA, evA, evOf, List.map, List.cons_append, List.nil_append]
      repeat' (first | refine W.seq fun K hK => ?_ | refine W.block ?_ | ((first | refine wR ?_ | refine wD ?_ | refine W.skip ?_ | refine W.exit ?_ | refine W.ret (Post.ret ?_) | refine aP ?_ | refine aF ?_ | refine aL ?_ | refine aU ?_ | refine aM ?_ | refine aN ?_ | refine aR ?_); simp only [go_sem, reduceCtorEq]) | refine wT ?_ | refine wF ?_ | refine wC (fun h => ?_) (fun h => ?_) | refine iK ?_ | refine aI2 ?_ | (refine hK _ ?_; clear hK K) | clear hK K)
      refine AX.gcall [0, 1] rfl rfl (a1) (by simp only [go_sem, reduceCtorEq]) (by simp only [go_sem, reduceCtorEq]) rfl rfl (by simp only [go_sem, Obj.owns]) rfl (by simp only [go_sem, Obj.owns]) rfl rfl ?_
      simp only [go_sem, reduceCtorEq]
      repeat' (first | refine W.seq fun K hK => ?_ | refine W.block ?_ | ((first | refine wR ?_ | refine wD ?_ | refine W.skip ?_ | refine W.exit ?_ | refine W.ret (Post.ret ?_) | refine aP ?_ | refine aF ?_ | refine aL ?_ | refine aU ?_ | refine aM ?_ | refine aN ?_ | refine aR ?_); simp only [go_sem, reduceCtorEq]) | refine wT ?_ | refine wF ?_ | refine wC (fun h => ?_) (fun h => ?_) | refine iK ?_ | refine aI2 ?_ | (refine hK _ ?_; clear hK K) | clear hK K)
      refine AX.gcall [0, 1] rfl rfl (a2) (by simp only [go_sem, reduceCtorEq]) (by simp only [go_sem, reduceCtorEq]) rfl rfl (by simp only [go_sem, Obj.owns]) rfl (by simp only [go_sem, Obj.owns]) rfl rfl ?_
      simp only [go_sem, reduceCtorEq]
      repeat' (first | refine W.seq fun K hK => ?_ | refine W.block ?_ | ((first | refine wR ?_ | refine wD ?_ | refine W.skip ?_ | refine W.exit ?_ | refine W.ret (Post.ret ?_) | refine aP ?_ | refine aF ?_ | refine aL ?_ | refine aU ?_ | refine aM ?_ | refine aN ?_ | refine aR ?_); simp only [go_sem, reduceCtorEq]) | refine wT ?_ | refine wF ?_ | refine wC (fun h => ?_) (fun h => ?_) | refine iK ?_ | refine aI2 ?_ | (refine hK _ ?_; clear hK K) | clear hK K)
      refine AX.gcall [0, 1] rfl rfl (a3) (by simp only [go_sem, reduceCtorEq]) (by simp only [go_sem, reduceCtorEq]) rfl rfl (by simp only [go_sem, Obj.owns]) rfl (by simp only [go_sem, Obj.owns]) rfl rfl ?_
      simp only [go_sem, reduceCtorEq]
      repeat' (first | refine W.seq fun K hK => ?_ | refine W.block ?_ | ((first | refine wR ?_ | refine wD ?_ | refine W.skip ?_ | refine W.exit ?_ | refine W.ret (Post.ret ?_) | refine aP ?_ | refine aF ?_ | refine aL ?_ | refine aU ?_ | refine aM ?_ | refine aN ?_ | refine aR ?_); simp only [go_sem, reduceCtorEq]) | refine wT ?_ | refine wF ?_ | refine wC (fun h => ?_) (fun h => ?_) | refine iK ?_ | refine aI2 ?_ | (refine hK _ ?_; clear hK K) | clear hK K)
      refine hKT _ (Fits.fit [(0, 0), (1, 1), (2, 2), (3, 3), (4, 4), (5, 5), (6, 6)] [0, 6, 7, 8, 9, 10, 12, 20, 21, 22, 48] 7 rfl rfl ?_)
      simp only [go_sem, rnCs_chS, rnCs_chE, spA, evA, evOf, List.map]
      exact Fits.rfl
    · obtain rfl : i = L.length := by omega
      rw [List.take_length] at hacc
      have e1 : decide ((L.length : Int) < L.length) = false := by simp
      have hfin : chooseF bf ((getK m s.id).getD []) lo cur = acc := by rw [← hL]; exact hacc.symm
      clear hKL hacc ca hg
      cases acc with
      | none =>
        simp only [chT, chS, chE, zSpn, Option.isSome_none]
        repeat' (first | refine W.seq fun K hK => ?_ | refine W.block ?_ | ((first | refine wR ?_ | refine wD ?_ | refine W.skip ?_ | refine W.exit ?_ | refine W.ret (Post.ret ?_) | refine aP ?_ | refine aF ?_ | refine aL ?_ | refine aU (hnn := by simp only [go_sem, reduceCtorEq, e1]) ?_ | refine aM ?_ | refine aN ?_ | refine aR ?_); simp only [go_sem, reduceCtorEq, e1]) | refine wT ?_ | refine wF ?_ | refine wC (fun h => ?_) (fun h => ?_) | refine iK ?_ | refine aI2 ?_ | (refine hK _ ?_; clear hK K) | clear hK K)
        refine W.ret (PostG.ret (r := chT none) (Fits.fit [(0, 0), (1, 1), (4, 2), (5, 3)] [8, 9, 10] 4 rfl rfl Fits.rfl) ?_ rfl ?_)
        · simp only [St.resG, St.resGL, St.resG1, go_sem, chT, chS, chE, zSpn, spA, evA, List.map, Option.isSome_none, Option.isSome_some]
        simp only [St.r, go_sem, hfin, chT, chS, chE, zSpn, spA, evA, List.map, Option.isSome_none, Option.isSome_some]
      | some y =>
        obtain ⟨z, v⟩ := y
        simp only [chT, chS, chE, spA, evA, List.map, Option.isSome_some]
        repeat' (first | refine W.seq fun K hK => ?_ | refine W.block ?_ | ((first | refine wR ?_ | refine wD ?_ | refine W.skip ?_ | refine W.exit ?_ | refine W.ret (Post.ret ?_) | refine aP ?_ | refine aF ?_ | refine aL ?_ | refine aU (hnn := by simp only [go_sem, reduceCtorEq, e1]) ?_ | refine aM ?_ | refine aN ?_ | refine aR ?_); simp only [go_sem, reduceCtorEq, e1]) | refine wT ?_ | refine wF ?_ | refine wC (fun h => ?_) (fun h => ?_) | refine iK ?_ | refine aI2 ?_ | (refine hK _ ?_; clear hK K) | clear hK K)
        refine W.ret (PostG.ret (r := chT (some (z, v))) (Fits.fit [(0, 0), (1, 1), (4, 2), (5, 3)] [8, 9, 10] 4 rfl rfl Fits.rfl) ?_ rfl ?_)
        · simp only [St.resG, St.resGL, St.resG1, go_sem, chT, chS, chE, zSpn, spA, evA, List.map, Option.isSome_none, Option.isSome_some]
        simp only [St.r, go_sem, hfin, chT, chS, chE, zSpn, spA, evA, List.map, Option.isSome_none, Option.isSome_some]
  clear hK
  cases hgk : getK m s.id with
  | none =>
    rw [hgk] at hg hL
    simp only [Option.getD_none, Option.map_none] at hg hL
    subst hL
    repeat' (first | refine W.seq fun K hK => ?_ | refine W.block ?_ | ((first | refine wR ?_ | refine wD ?_ | refine W.skip ?_ | refine W.exit ?_ | refine W.ret (Post.ret ?_) | refine aP ?_ | refine aF ?_ | refine aL ?_ | refine aU (hnn := by simp only [go_sem, reduceCtorEq, hg]) ?_ | refine aM ?_ | refine aN ?_ | refine aR ?_); simp only [go_sem, reduceCtorEq, hg]) | refine wT ?_ | refine wF ?_ | refine wC (fun h => ?_) (fun h => ?_) | refine iK ?_ | refine aI2 ?_ | (refine hK _ ?_; clear hK K) | clear hK K)
    refine hK2 _ ?_
    refine Fits.nilSl 20 42 rfl ?_
    refine Fits.fit [(0, 0), (1, 1), (3, 2), (4, 3), (5, 4), (6, 5)] [0, 6, 7, 8, 9, 10, 20, 21, 22] 6 rfl rfl ?_
    simp only [go_sem, evA, List.map, zSpn, chE, List.length_nil]
    exact Fits.rfl
  | some l =>
    rw [hgk] at hg hL
    simp only [Option.getD_some, Option.map_some] at hg hL
    subst hL
    repeat' (first | refine W.seq fun K hK => ?_ | refine W.block ?_ | ((first | refine wR ?_ | refine wD ?_ | refine W.skip ?_ | refine W.exit ?_ | refine W.ret (Post.ret ?_) | refine aP ?_ | refine aF ?_ | refine aL ?_ | refine aU (hnn := by simp only [go_sem, reduceCtorEq, hg, List.length_map]) ?_ | refine aM ?_ | refine aN ?_ | refine aR ?_); simp only [go_sem, reduceCtorEq, hg, List.length_map]) | refine wT ?_ | refine wF ?_ | refine wC (fun h => ?_) (fun h => ?_) | refine iK ?_ | refine aI2 ?_ | (refine hK _ ?_; clear hK K) | clear hK K)
    refine hK2 _ ?_
    refine Fits.fit [(0, 0), (1, 1), (3, 2), (4, 3), (5, 4), (6, 5)] [0, 6, 7, 8, 9, 10, 20, 21, 22] 6 rfl rfl ?_
    simp only [go_sem, evA, List.map, zSpn, chE]
    exact Fits.rfl
theorem choose_c (m : KM) (hI : ∀ y ∈ m, y.2.length ≤ 140737488355328) (F : Nat) (caps : List AV) (bf : Ev → Ev → Bool) (hbf : BfC F caps bf) (p : List Sg) (s : Spn) (lo cur : Ev) (hid : I64 s.id) (hlo : okE lo) (hcur : okE cur) (hkk : ∀ y ∈ m, ∀ z ∈ y.2, I64 z.tr ∧ I64 z.id) :
    GCall Tryz.prog 150 2 (St.g [.c (.ptr 0 0), spT s, evT lo, evT cur] (wkO m F caps p) 2) (St.r (chT (chooseF bf ((getK m s.id).getD []) lo cur)) (wkO m F caps p) 2) := by
  refine outF (choose0_c m hI F caps bf hbf p s lo cur hid hlo hcur hkk) ?_
  rintro ⟨P, w0, ok0, may, np, pblk⟩ rfl rfl
  generalize chooseF bf ((getK m s.id).getD []) lo cur = acc
  cases acc with
  | none =>
    simp only [St.r, chT, chS, chE, zSpn, Option.isSome_none]
    refine Fits.fit [(0, 0), (1, 1)] [0] 2 rfl rfl ?_
    simp only [go_sem]
    exact Fits.rfl
  | some y =>
    obtain ⟨z, v⟩ := y
    simp only [St.r, chT, chS, chE, spA, evA, List.map, Option.isSome_some]
    refine Fits.fit [(0, 0), (1, 1)] [0] 2 rfl rfl ?_
    simp only [go_sem]
    exact Fits.rfl
end Go.Proofs.YthlimkmjobpjoaaGreat
namespace Go.Proofs.YthlimkmjobpjoaaGreat
open Go.RowKit Go.Exe
/-- What the walk adds to the path; none where the steps did not suffice. -/
def wkF (bf : Ev → Ev → Bool) (kid : Int → List Spn) : Nat → Spn → Ev → Ev → Option (List Sg)
  | 0, _, _, _ => none
  | n + 1, s, lo, cur =>
    if askB bf lo cur then
      match chooseF bf (kid s.id) lo cur with
      | none => some [⟨(s.tr, s.id), lo, cur⟩]
      | some y =>
        match wkF bf kid n y.1 (if askB bf lo (evOf y.1 false) then evOf y.1 false else lo) y.2, wkF bf kid n s lo (if askB bf lo (evOf y.1 false) then evOf y.1 false else lo) with
        | some q1, some q2 => some ((if y.2 = cur then [] else [⟨(s.tr, s.id), y.2, cur⟩]) ++ q1 ++ q2)
        | _, _ => none
    else some []
theorem wkF_none {bf : Ev → Ev → Bool} {kid : Int → List Spn} {n : Nat} {s : Spn} {lo cur : Ev} {q : List Sg} (h : wkF bf kid (n + 1) s lo cur = some q) (ha : askB bf lo cur = true) (hc : chooseF bf (kid s.id) lo cur = none) : q = [⟨(s.tr, s.id), lo, cur⟩] := by
  simp only [wkF, ha, if_true, hc] at h
  exact (Option.some.inj h).symm
theorem wkF_no {bf : Ev → Ev → Bool} {kid : Int → List Spn} {n : Nat} {s : Spn} {lo cur : Ev} {q : List Sg} (h : wkF bf kid (n + 1) s lo cur = some q) (ha : askB bf lo cur = false) : q = [] := by
  simp [wkF, ha] at h
  exact h
theorem wkF_some {bf : Ev → Ev → Bool} {kid : Int → List Spn} {n : Nat} {s : Spn} {lo cur : Ev} {q : List Sg} (h : wkF bf kid (n + 1) s lo cur = some q) (ha : askB bf lo cur = true) {c : Spn} {v : Ev} (hc : chooseF bf (kid s.id) lo cur = some (c, v)) :
    ∃ q1 q2, wkF bf kid n c (if askB bf lo (evOf c false) then evOf c false else lo) v = some q1 ∧ wkF bf kid n s lo (if askB bf lo (evOf c false) then evOf c false else lo) = some q2 ∧ q = (if v = cur then [] else [⟨(s.tr, s.id), v, cur⟩]) ++ q1 ++ q2 := by
  simp only [wkF, ha, if_true, hc] at h
  cases h1 : wkF bf kid n c (if askB bf lo (evOf c false) then evOf c false else lo) v with
  | none => rw [h1] at h; simp at h
  | some q1 =>
    cases h2 : wkF bf kid n s lo (if askB bf lo (evOf c false) then evOf c false else lo) with
    | none => rw [h1, h2] at h; simp at h
    | some q2 =>
      rw [h1, h2] at h
      exact ⟨q1, q2, rfl, rfl, (Option.some.inj h).symm⟩
theorem wkF_one {bf : Ev → Ev → Bool} {kid : Int → List Spn} : ∀ {n : Nat} {s : Spn} {lo cur : Ev} {q : List Sg}, wkF bf kid n s lo cur = some q → wkF bf kid (n + 1) s lo cur = some q
  | 0, _, _, _, _, h => by simp [wkF] at h
  | n + 1, s, lo, cur, q, h => by
    cases hA : askB bf lo cur with
    | false => rw [wkF_no h hA]; simp [wkF, hA]
    | true =>
      cases hC : chooseF bf (kid s.id) lo cur with
      | none => rw [wkF_none h hA hC]; simp [wkF, hA, hC]
      | some y =>
        obtain ⟨c, v⟩ := y
        obtain ⟨q1, q2, h1, h2, rfl⟩ := wkF_some h hA hC
        have h1 := wkF_one h1
        have h2 := wkF_one h2
        rw [wkF]
        simp only [hA, if_true, hC, h1, h2]
theorem wkF_mono {bf : Ev → Ev → Bool} {kid : Int → List Spn} {n k : Nat} {s : Spn} {lo cur : Ev} {q : List Sg} (h : wkF bf kid n s lo cur = some q) (hk : n ≤ k) : wkF bf kid k s lo cur = some q := by
  obtain ⟨d, rfl⟩ := Nat.exists_eq_add_of_le hk
  clear hk
  induction d with
  | zero => exact h
  | succ d ih => exact wkF_one ih
theorem chooseF_mem {bf : Ev → Ev → Bool} {l : List Spn} {lo cur : Ev} {y : Spn × Ev} (h : chooseF bf l lo cur = some y) : y.1 ∈ l := by
  have key : ∀ (l : List Spn) (acc : Option (Spn × Ev)) (y : Spn × Ev), l.foldl (chStep bf lo cur) acc = some y → y.1 ∈ l ∨ acc = some y := by
    intro l
    induction l with
    | nil => intro acc y h; exact .inr h
    | cons k l ih =>
      intro acc y h
      rcases ih _ _ h with h | h
      · exact .inl (by simp [h])
      · rw [chStep_eq] at h
        by_cases hA : (askB bf (evOf k false) cur && askB bf lo (evOf k true) && askB bf (evOf k false) (evOf k true)) = true
        · rw [if_pos hA] at h
          cases acc with
          | none => exact .inl (by simp only [Option.some.injEq] at h; simp [← h])
          | some y0 =>
            simp only at h
            generalize (if askB bf (evOf k true) cur = true then evOf k true else cur) = v at h
            by_cases hB : askB bf y0.2 v = true
            · rw [if_pos hB] at h; exact .inl (by simp only [Option.some.injEq] at h; simp [← h])
            · rw [if_neg hB] at h; exact .inr h
        · rw [if_neg hA] at h; exact .inr h
  rcases key l none y h with h | h
  · exact h
  · simp at h
theorem chooseF_ok {bf : Ev → Ev → Bool} {l : List Spn} {lo cur : Ev} (hl : ∀ z ∈ l, I64 z.tr ∧ I64 z.id) (hc : okE cur) {y : Spn × Ev} (h : chooseF bf l lo cur = some y) : okE y.2 := by
  have key : ∀ (l : List Spn) (acc : Option (Spn × Ev)), (∀ z ∈ l, I64 z.tr ∧ I64 z.id) → (∀ y, acc = some y → okE y.2) → ∀ y, l.foldl (chStep bf lo cur) acc = some y → okE y.2 := by
    intro l
    induction l with
    | nil => intro acc _ h y e; exact h y e
    | cons k l ih =>
      intro acc hl h y e
      refine ih _ (fun z hz => hl z (by simp [hz])) ?_ y e
      intro y2 h2
      have hk := hl k (by simp)
      rw [chStep_eq] at h2
      have hv : okE (if askB bf (evOf k true) cur then evOf k true else cur) := by
        split
        · exact hk
        · exact hc
      generalize (if askB bf (evOf k true) cur = true then evOf k true else cur) = v at h2 hv
      by_cases hA : (askB bf (evOf k false) cur && askB bf lo (evOf k true) && askB bf (evOf k false) (evOf k true)) = true
      · rw [if_pos hA] at h2
        cases acc with
        | none => simp only [Option.some.injEq] at h2; rw [← h2]; exact hv
        | some y0 =>
          simp only at h2
          by_cases hB : askB bf y0.2 v = true
          · rw [if_pos hB] at h2; simp only [Option.some.injEq] at h2; rw [← h2]; exact hv
          · rw [if_neg hB] at h2; exact h y2 h2
      · rw [if_neg hA] at h2; exact h y2 h2
  exact key l none hl (by simp) y h
theorem snocG (l : List Sg) (s : Sg) : imR ((l ++ [s]).map sgA) = imR (l.map sgA) ++ [(sgA s).map .im] := by simp [imR, imL]
def kidF (m : KM) (k : Int) : List Spn := (getK m k).getD []
attribute [local irreducible] W AX Run RunD AStep AOp AOpX AStB AStH AStG Fits PCall GCall PostG Post Stop
theorem walk_c (m : KM) (hI : ∀ y ∈ m, y.2.length ≤ 140737488355328) (hid : ∀ y ∈ m, ∀ z ∈ y.2, I64 z.tr ∧ I64 z.id) (F : Nat) (caps : List AV) (bf : Ev → Ev → Bool) (hbf : BfC F caps bf) :
    ∀ (n : Nat) (s : Spn) (lo cur : Ev) (q : List Sg), wkF bf (kidF m) n s lo cur = some q → I64 s.id → okE lo → okE cur → ∀ p : List Sg, p.length + q.length ≤ 2199023255552 →
      GCall Tryz.prog 117 1 (St.g [.c (.ptr 0 0), spT s, evT lo, evT cur] (wkO m F caps p) 2) (St.r (.t []) (wkO m F caps (p ++ q)) 2) := by
  intro n
  induction n with
  | zero => intro s lo cur q h; simp [wkF] at h
  | succ n ih =>
    intro s lo cur q hq hs hlo hcur p hpl
    have c37 := event_c
    have c46 := refOf_c s
    have ca := fun p => ask_c m F caps bf hbf p
    have cc := fun p cur hcur => choose_c m hI F caps bf hbf p s lo cur hs hlo hcur hid
    clear hbf
    simp only [spT, spA, evT, evA, refA, List.map] at c46 ⊢
    refine GCall.introG (nt := 77) (rs := []) Tryz.func117 rfl ⟨by kernel_rfl, by kernel_rfl, by kernel_rfl⟩ (by simp) ?_
    rintro ⟨P, w0, ok0, may, np, pblk⟩ rfl rfl
    simp only [go_sem]
    repeat' (first | refine W.seq fun K hK => ?_ | refine W.block ?_ | ((first | refine wR ?_ | refine wD ?_ | refine W.skip ?_ | refine W.exit ?_ | refine W.ret (Post.ret ?_) | refine aP ?_ | refine aF ?_ | refine aQ ?_); simp only [go_sem, reduceCtorEq]) | refine wT ?_ | refine wF ?_ | refine wC (fun h => ?_) (fun h => ?_) | refine iK ?_ | refine aI2 ?_ | (refine hK _ ?_; clear hK K) | clear hK K)
    refine W.loopF (T := fun x : Nat × Ev × List Sg × List Sg => { t := [(0, .c (.ptr 0 0)), (5, .c (.ptr 2 0)), (6, .c (.ptr 3 0)), (7, .c (.ptr 4 0))], h := wkO m F caps x.2.2.1 ++ [(2, .box 42 ((spA s).map .im)), (3, .box 116 ((evA lo).map .im)), (4, .box 116 ((evA x.2.1).map .im))], nx := 5, ex := [], nt := 77 })
      (Inv := fun x => wkF bf (kidF m) x.1 s lo x.2.1 = some x.2.2.2 ∧ x.2.2.1 ++ x.2.2.2 = p ++ q ∧ x.1 ≤ n + 1 ∧ okE x.2.1) (μ := fun x => x.1) (x0 := (n + 1, cur, p, q)) ?_ ⟨hq, rfl, Nat.le_refl _, hcur⟩ ?_
    · refine Fits.fit [(0, 0), (1, 1), (2, 2), (3, 3), (4, 4)] [0, 5, 6, 7] 5 rfl rfl ?_
      simp only [go_sem, evA, spA, List.map]
      exact Fits.rfl
    rintro ⟨n1, cur1, p1, q1⟩ ⟨hq1, he1, hn1, hok1⟩ KL hKL
    simp only at hq1 he1 hn1 hok1
    cases n1 with
    | zero => simp [wkF] at hq1
    | succ n1 =>
      have hpl1 : p1.length + q1.length = p.length + q.length := by
        have := congrArg List.length he1
        simpa using this
      have a0 := ca p1 lo cur1 hlo hok1
      simp only [spT, spA, evT, evA, List.map] at a0
      cases hA : askB bf lo cur1 with
      | false =>
        have hqn := wkF_no hq1 hA
        subst hqn
        rw [List.append_nil] at he1
        rw [hA] at a0
        simp only [evA, spA, List.map, List.cons_append, List.nil_append]
        clear hKL
        repeat' (first | refine W.seq fun K hK => ?_ | refine W.block ?_ | ((first | refine wR ?_ | refine wD ?_ | refine W.skip ?_ | refine W.exit ?_ | refine W.ret (Post.ret ?_) | refine aP ?_ | refine aF ?_ | refine aQ ?_); simp only [go_sem, reduceCtorEq]) | refine wT ?_ | refine wF ?_ | refine wC (fun h => ?_) (fun h => ?_) | refine iK ?_ | refine aI2 ?_ | (refine hK _ ?_; clear hK K) | clear hK K)
        refine AX.gcall [0, 1] rfl rfl (a0) (by simp only [go_sem, reduceCtorEq]) (by simp only [go_sem, reduceCtorEq]) rfl rfl (by simp only [go_sem, Obj.owns]) rfl (by simp only [go_sem, Obj.owns]) rfl rfl ?_
        simp only [go_sem, reduceCtorEq]
        repeat' (first | refine W.seq fun K hK => ?_ | refine W.block ?_ | ((first | refine wR ?_ | refine wD ?_ | refine W.skip ?_ | refine W.exit ?_ | refine W.ret (Post.ret ?_) | refine aP ?_ | refine aF ?_ | refine aQ ?_); simp only [go_sem, reduceCtorEq]) | refine wT ?_ | refine wF ?_ | refine wC (fun h => ?_) (fun h => ?_) | refine iK ?_ | refine aI2 ?_ | (refine hK _ ?_; clear hK K) | clear hK K)
        refine PostG.normal (Fits.fit [(0, 0), (1, 1)] [] 2 rfl rfl Fits.rfl) rfl rfl ?_
        simp only [St.r, go_sem, he1]
      | true =>
        rw [hA] at a0
        have c1 := cc p1 cur1 hok1
        clear cc
        cases hC : chooseF bf (kidF m s.id) lo cur1 with
        | none =>
          have hqn := wkF_none hq1 hA hC
          subst hqn
          have hC2 : chooseF bf ((getK m s.id).getD []) lo cur1 = none := hC
          rw [hC2] at c1
          have hb : p1.length + 1 ≤ 2199023255552 := by rw [← hpl1] at hpl; simpa using hpl
          simp only [spT, spA, evT, evA, List.map, chT, chS, chE, zSpn, Option.isSome_none] at c1
          simp only [evA, spA, List.map, List.cons_append, List.nil_append]
          clear hKL ca c37 ih hq1 hC hC2
          repeat' (first | refine W.seq fun K hK => ?_ | refine W.block ?_ | ((first | refine wR ?_ | refine wD ?_ | refine W.skip ?_ | refine W.exit ?_ | refine W.ret (Post.ret ?_) | refine aP ?_ | refine aF ?_ | refine aQ ?_); simp only [go_sem, reduceCtorEq]) | refine wT ?_ | refine wF ?_ | refine wC (fun h => ?_) (fun h => ?_) | refine iK ?_ | refine aI2 ?_ | (refine hK _ ?_; clear hK K) | clear hK K)
          refine AX.gcall [0, 1] rfl rfl (a0) (by simp only [go_sem, reduceCtorEq]) (by simp only [go_sem, reduceCtorEq]) rfl rfl (by simp only [go_sem, Obj.owns]) rfl (by simp only [go_sem, Obj.owns]) rfl rfl ?_
          simp only [go_sem, reduceCtorEq]
          repeat' (first | refine W.seq fun K hK => ?_ | refine W.block ?_ | ((first | refine wR ?_ | refine wD ?_ | refine W.skip ?_ | refine W.exit ?_ | refine W.ret (Post.ret ?_) | refine aP ?_ | refine aF ?_ | refine aQ ?_); simp only [go_sem, reduceCtorEq]) | refine wT ?_ | refine wF ?_ | refine wC (fun h => ?_) (fun h => ?_) | refine iK ?_ | refine aI2 ?_ | (refine hK _ ?_; clear hK K) | clear hK K)
          refine AX.gcall [0, 1] rfl rfl (c1) (by simp only [go_sem, reduceCtorEq]) (by simp only [go_sem, reduceCtorEq]) rfl rfl (by simp only [go_sem, Obj.owns]) rfl (by simp only [go_sem, Obj.owns]) rfl rfl ?_
          simp only [go_sem, reduceCtorEq]
          repeat' (first | refine W.seq fun K hK => ?_ | refine W.block ?_ | ((first | refine wR ?_ | refine wD ?_ | refine W.skip ?_ | refine W.exit ?_ | refine W.ret (Post.ret ?_) | refine aP ?_ | refine aF ?_ | refine aQ ?_); simp only [go_sem, reduceCtorEq, spA, evA, List.map, List.cons_append, List.nil_append, imR_len, List.length_map]) | refine wT ?_ | refine wF ?_ | refine wC (fun h => ?_) (fun h => ?_) | refine iK ?_ | refine aI2 ?_ | (refine hK _ ?_; clear hK K) | clear hK K)
          refine W.ret (PostG.ret (Fits.fit [(0, 0), (41, 1)] [] 2 rfl rfl Fits.rfl) rfl rfl ?_)
          simp only [St.r, go_sem, ← he1, wkO, snocG, sgA, List.map]
        | some y =>
          obtain ⟨c, v⟩ := y
          obtain ⟨q2, q3, hw1, hw2, hqn⟩ := wkF_some hq1 hA hC
          have hC2 : chooseF bf ((getK m s.id).getD []) lo cur1 = some (c, v) := hC
          obtain ⟨y, hy, hcy⟩ := getK_mem (chooseF_mem hC2)
          have hcid := (hid y hy c hcy).2
          have hct : okE (evOf c false) := hid y hy c hcy
          have hvok : okE v := chooseF_ok (l := (getK m s.id).getD []) (fun z hz => by
            obtain ⟨y, hy, h⟩ := getK_mem hz
            exact hid y hy z h) hok1 hC2
          rw [hC2] at c1
          obtain ⟨p2, hp2⟩ : ∃ p2, p2 = p1 ++ (if v = cur1 then [] else [⟨(s.tr, s.id), v, cur1⟩]) := ⟨_, rfl⟩
          have he2 : p2 ++ q2 ++ q3 = p ++ q := by rw [← he1, hqn, hp2]; simp
          have hl2 : p2.length + q2.length + q3.length = p.length + q.length := by
            have := congrArg List.length he2
            simp only [List.length_append] at this
            omega
          have hb2 : p2.length + q2.length ≤ 2199023255552 := by omega
          have hb : p2.length ≤ 2199023255552 := by omega
          have a8 := ca p2 lo (evOf c false) hlo hct
          have cE := c37 c false
          have hG := eqG52
          have hE := fun w => eqEv v.tr v.id cur1.tr cur1.id v.en cur1.en w
          simp only [evEq] at hE
          simp only [spT, spA, evT, evA, List.map, chT, chS, chE, zSpn, Option.isSome_some] at c1
          simp only [evA, spA, List.map, List.cons_append, List.nil_append]
          obtain ⟨A8, hA8⟩ : ∃ A, A = askB bf lo (evOf c false) := ⟨_, rfl⟩
          rw [← hA8] at a8 hw1 hw2
          simp only [spT, spA, evT, evA, evOf, List.map] at a8 cE
          clear ca c37 hq1 hC hC2 hI hid hy hcy hqn hA8
          repeat' (first | refine W.seq fun K hK => ?_ | refine W.block ?_ | ((first | refine wR ?_ | refine wD ?_ | refine W.skip ?_ | refine W.exit ?_ | refine W.ret (Post.ret ?_) | refine aP ?_ | refine aF ?_ | refine aQ ?_); simp only [go_sem, reduceCtorEq]) | refine wT ?_ | refine wF ?_ | refine wC (fun h => ?_) (fun h => ?_) | refine iK ?_ | refine aI2 ?_ | (refine hK _ ?_; clear hK K) | clear hK K)
          refine AX.gcall [0, 1] rfl rfl (a0) (by simp only [go_sem, reduceCtorEq]) (by simp only [go_sem, reduceCtorEq]) rfl rfl (by simp only [go_sem, Obj.owns]) rfl (by simp only [go_sem, Obj.owns]) rfl rfl ?_
          simp only [go_sem, reduceCtorEq]
          repeat' (first | refine W.seq fun K hK => ?_ | refine W.block ?_ | ((first | refine wR ?_ | refine wD ?_ | refine W.skip ?_ | refine W.exit ?_ | refine W.ret (Post.ret ?_) | refine aP ?_ | refine aF ?_ | refine aQ ?_); simp only [go_sem, reduceCtorEq]) | refine wT ?_ | refine wF ?_ | refine wC (fun h => ?_) (fun h => ?_) | refine iK ?_ | refine aI2 ?_ | (refine hK _ ?_; clear hK K) | clear hK K)
          refine AX.gcall [0, 1] rfl rfl (c1) (by simp only [go_sem, reduceCtorEq]) (by simp only [go_sem, reduceCtorEq]) rfl rfl (by simp only [go_sem, Obj.owns]) rfl (by simp only [go_sem, Obj.owns]) rfl rfl ?_
          simp only [go_sem, reduceCtorEq]
          repeat' (first | refine W.stop (id := 6) ?_ | refine W.seq fun K hK => ?_ | refine W.block ?_ | ((first | refine wR ?_ | refine wD ?_ | refine W.skip ?_ | refine W.exit ?_ | refine W.ret (Post.ret ?_) | refine aP ?_ | refine aF ?_ | refine aQ ?_); simp only [go_sem, reduceCtorEq, spA, evA, List.map, List.cons_append, List.nil_append, Bool.not_true, Bool.not_false, imR_len, List.length_map]) | refine wT ?_ | refine wF ?_ | refine wC (fun h => ?_) (fun h => ?_) | refine iK ?_ | refine aI2 ?_ | (refine hK _ ?_; clear hK K) | clear hK K)
          refine Stop.out ?_
          rename_i K9 hK9o
          have hK9 : ∀ s1, Fits { P := Tryz.prog, w0 := w0, ok0 := ok0, may := may, np := 1, pblk := pblk } s1 { t := [(0, .c (.ptr 0 0)), (5, .c (.ptr 2 0)), (6, .c (.ptr 3 0)), (7, .c (.ptr 4 0)), (8, .c (.ptr 5 0)), (9, .c (.ptr 6 0))], h := wkO m F caps p2 ++ [(2, .box 42 ((spA s).map .im)), (3, .box 116 ((evA lo).map .im)), (4, .box 116 ((evA cur1).map .im)), (5, .box 42 ((spA c).map .im)), (6, .box 116 ((evA v).map .im))], nx := 7, ex := [], nt := 77 } → K9 s1 := by
            intro s1 hf
            refine hK9o _ (W.fits hf ?_)
            clear hf hK K hK9o a0 c1 c46 hE
            simp only [spA, evA, List.map, List.cons_append, List.nil_append, Bool.not_true, Bool.not_false, imR_len, List.length_map]
            repeat' (first | refine W.stop (id := 9) ?_ | refine W.seq fun K hK => ?_ | refine W.block ?_ | ((first | refine wR ?_ | refine wD ?_ | refine W.skip ?_ | refine W.exit ?_ | refine W.ret (Post.ret ?_) | refine aP ?_ | refine aF ?_ | refine aQ ?_); simp only [go_sem, reduceCtorEq]) | refine wT ?_ | refine wF ?_ | refine wC (fun h => ?_) (fun h => ?_) | refine iK ?_ | refine aI2 ?_ | (refine hK _ ?_; clear hK K) | clear hK K)
            refine Stop.out ?_
            rename_i K12 hK12o
            obtain ⟨b, hb⟩ : ∃ b, b = if A8 = true then evOf c false else lo := ⟨_, rfl⟩
            have hbo : okE b := by
              rw [hb]
              split
              · exact hct
              · exact hlo
            rw [← hb] at hw1 hw2
            have hK12 : ∀ s1, Fits { P := Tryz.prog, w0 := w0, ok0 := ok0, may := may, np := 1, pblk := pblk } s1 { t := [(0, .c (.ptr 0 0)), (5, .c (.ptr 2 0)), (6, .c (.ptr 3 0)), (7, .c (.ptr 4 0)), (8, .c (.ptr 5 0)), (9, .c (.ptr 6 0)), (11, .c (.ptr 7 0))], h := wkO m F caps p2 ++ [(2, .box 42 ((spA s).map .im)), (3, .box 116 ((evA lo).map .im)), (4, .box 116 ((evA cur1).map .im)), (5, .box 42 ((spA c).map .im)), (6, .box 116 ((evA v).map .im)), (7, .box 116 ((evA b).map .im))], nx := 8, ex := [], nt := 77 } → K12 s1 := by
              intro s1 hf
              refine hK12o _ (W.fits hf ?_)
              clear hf hK K hK12o a8 cE
              have r1 := ih c b v q2 (wkF_mono hw1 (by omega)) hcid hbo hvok p2 hb2
              simp only [spT, spA, evT, evA, List.map] at r1
              simp only [spA, evA, List.map, List.cons_append, List.nil_append, Bool.not_true, Bool.not_false, imR_len, List.length_map]
              repeat' (first | refine W.seq fun K hK => ?_ | refine W.block ?_ | ((first | refine wR ?_ | refine wD ?_ | refine W.skip ?_ | refine W.exit ?_ | refine W.ret (Post.ret ?_) | refine aP ?_ | refine aF ?_ | refine aQ ?_); simp only [go_sem, reduceCtorEq]) | refine wT ?_ | refine wF ?_ | refine wC (fun h => ?_) (fun h => ?_) | refine iK ?_ | refine aI2 ?_ | (refine hK _ ?_; clear hK K) | clear hK K)
              refine AX.gcall [0, 1] rfl rfl (r1) (by simp only [go_sem, reduceCtorEq]) (by simp only [go_sem, reduceCtorEq]) rfl rfl (by simp only [go_sem, Obj.owns]) rfl (by simp only [go_sem, Obj.owns]) rfl rfl ?_
              simp only [go_sem, reduceCtorEq]
              repeat' (first | refine W.seq fun K hK => ?_ | refine W.block ?_ | ((first | refine wR ?_ | refine wD ?_ | refine W.skip ?_ | refine W.exit ?_ | refine W.ret (Post.ret ?_) | refine aP ?_ | refine aF ?_ | refine aQ ?_); simp only [go_sem, reduceCtorEq]) | refine wT ?_ | refine wF ?_ | refine wC (fun h => ?_) (fun h => ?_) | refine iK ?_ | refine aI2 ?_ | (refine hK _ ?_; clear hK K) | clear hK K)
              refine hKL.to (n1, b, p2 ++ q2, q3) ⟨hw2, by simp only; exact he2, by simp only; omega, hbo⟩ (by simp only; omega) (Fits.fit [(0, 0), (12, 1), (2, 2), (3, 3), (4, 4)] [0, 5, 6, 7] 5 rfl rfl ?_)
              simp only [go_sem, evA, spA, evOf, List.map]
              exact Fits.rfl
            clear hK12o hKL hw1 hw2 ih
            cases A8 with
            | false =>
              simp only [Bool.false_eq_true, if_false] at hb
              subst hb
              repeat' (first | refine W.seq fun K hK => ?_ | refine W.block ?_ | ((first | refine wR ?_ | refine wD ?_ | refine W.skip ?_ | refine W.exit ?_ | refine W.ret (Post.ret ?_) | refine aP ?_ | refine aF ?_ | refine aQ ?_); simp only [go_sem, reduceCtorEq]) | refine wT ?_ | refine wF ?_ | refine wC (fun h => ?_) (fun h => ?_) | refine iK ?_ | refine aI2 ?_ | (refine hK _ ?_; clear hK K) | clear hK K)
              refine AX.gcall [0, 1] rfl rfl (a8) (by simp only [go_sem, reduceCtorEq]) (by simp only [go_sem, reduceCtorEq]) rfl rfl (by simp only [go_sem, Obj.owns]) rfl (by simp only [go_sem, Obj.owns]) rfl rfl ?_
              simp only [go_sem, reduceCtorEq]
              repeat' (first | refine W.seq fun K hK => ?_ | refine W.block ?_ | ((first | refine wR ?_ | refine wD ?_ | refine W.skip ?_ | refine W.exit ?_ | refine W.ret (Post.ret ?_) | refine aP ?_ | refine aF ?_ | refine aQ ?_); simp only [go_sem, reduceCtorEq]) | refine wT ?_ | refine wF ?_ | refine wC (fun h => ?_) (fun h => ?_) | refine iK ?_ | refine aI2 ?_ | (refine hK _ ?_; clear hK K) | clear hK K)
              refine hK12 _ (Fits.fit [(0, 0), (1, 1), (2, 2), (3, 3), (4, 4), (5, 5), (6, 6), (8, 7)] [0, 5, 6, 7, 8, 9, 11] 8 rfl rfl ?_)
              simp only [go_sem, evA, spA, evOf, List.map]
              exact Fits.rfl
            | true =>
              simp only [if_true] at hb
              subst hb
              repeat' (first | refine W.seq fun K hK => ?_ | refine W.block ?_ | ((first | refine wR ?_ | refine wD ?_ | refine W.skip ?_ | refine W.exit ?_ | refine W.ret (Post.ret ?_) | refine aP ?_ | refine aF ?_ | refine aQ ?_); simp only [go_sem, reduceCtorEq]) | refine wT ?_ | refine wF ?_ | refine wC (fun h => ?_) (fun h => ?_) | refine iK ?_ | refine aI2 ?_ | (refine hK _ ?_; clear hK K) | clear hK K)
              refine AX.gcall [0, 1] rfl rfl (a8) (by simp only [go_sem, reduceCtorEq]) (by simp only [go_sem, reduceCtorEq]) rfl rfl (by simp only [go_sem, Obj.owns]) rfl (by simp only [go_sem, Obj.owns]) rfl rfl ?_
              simp only [go_sem, reduceCtorEq]
              repeat' (first | refine W.seq fun K hK => ?_ | refine W.block ?_ | ((first | refine wR ?_ | refine wD ?_ | refine W.skip ?_ | refine W.exit ?_ | refine W.ret (Post.ret ?_) | refine aP ?_ | refine aF ?_ | refine aQ ?_); simp only [go_sem, reduceCtorEq]) | refine wT ?_ | refine wF ?_ | refine wC (fun h => ?_) (fun h => ?_) | refine iK ?_ | refine aI2 ?_ | (refine hK _ ?_; clear hK K) | clear hK K)
              refine hK12 _ (Fits.fit [(0, 0), (1, 1), (2, 2), (3, 3), (4, 4), (5, 5), (6, 6), (8, 7)] [0, 5, 6, 7, 8, 9, 11] 8 rfl rfl ?_)
              simp only [go_sem, evA, spA, evOf, List.map]
              exact Fits.rfl
          clear hK9o hKL ih hw1 hw2 a8 cE a0 c1
          by_cases hv : v = cur1
          · rw [decide_eq_true hv] at hE
            rw [if_pos hv, List.append_nil] at hp2
            repeat' (first | refine W.seq fun K hK => ?_ | refine W.block ?_ | ((first | refine wR ?_ | refine wD ?_ | refine W.skip ?_ | refine W.exit ?_ | refine W.ret (Post.ret ?_) | refine aP ?_ | refine aF ?_ | refine aQ ?_); simp only [go_sem, reduceCtorEq, spA, evA, List.map, List.cons_append, List.nil_append, Bool.not_true, Bool.not_false, imR_len, List.length_map]) | refine wT ?_ | refine wF ?_ | refine wC (fun h => ?_) (fun h => ?_) | refine iK ?_ | refine aI2 ?_ | (refine hK _ ?_; clear hK K) | clear hK K)
            refine hK9 _ (Fits.fit [(0, 0), (1, 1), (2, 2), (3, 3), (4, 4), (18, 5), (19, 6)] [0, 5, 6, 7, 8, 9] 7 rfl rfl ?_)
            simp only [go_sem, evA, spA, List.map, hp2]
            exact Fits.rfl
          · rw [decide_eq_false hv] at hE
            rw [if_neg hv] at hp2
            have hb3 : p1.length + 1 ≤ 2199023255552 := by
              have := congrArg List.length hp2
              simp only [List.length_append, List.length_singleton] at this
              omega
            repeat' (first | refine W.seq fun K hK => ?_ | refine W.block ?_ | ((first | refine wR ?_ | refine wD ?_ | refine W.skip ?_ | refine W.exit ?_ | refine W.ret (Post.ret ?_) | refine aP ?_ | refine aF ?_ | refine aQ ?_); simp only [go_sem, reduceCtorEq, spA, evA, List.map, List.cons_append, List.nil_append, Bool.not_true, Bool.not_false, imR_len, List.length_map]) | refine wT ?_ | refine wF ?_ | refine wC (fun h => ?_) (fun h => ?_) | refine iK ?_ | refine aI2 ?_ | (refine hK _ ?_; clear hK K) | clear hK K)
            refine hK9 _ (Fits.fit [(0, 0), (44, 1), (2, 2), (3, 3), (4, 4), (18, 5), (19, 6)] [0, 5, 6, 7, 8, 9] 7 rfl rfl ?_)
            simp only [go_sem, evA, spA, List.map, hp2, snocG, sgA]
            exact Fits.rfl
end Go.Proofs.YthlimkmjobpjoaaGreat
namespace Go.Proofs.YthlimkmjobpjoaaGreat
open Go.RowKit Go.Exe
/-! ### Reverse -/
def sg0 : Sg := ⟨(0, 0), ⟨0, 0, false⟩, ⟨0, 0, false⟩⟩
def revN (l : List Sg) (i : Nat) : List Sg := (List.range l.length).map fun k => if k < i ∨ l.length - i ≤ k then l.getD (l.length - 1 - k) sg0 else l.getD k sg0
theorem revN_len (l : List Sg) (i : Nat) : (revN l i).length = l.length := by simp [revN]
theorem revN_get (l : List Sg) (i k : Nat) (h : k < l.length) : (revN l i)[k]? = some (if k < i ∨ l.length - i ≤ k then l.getD (l.length - 1 - k) sg0 else l.getD k sg0) := by
  simp [revN, h]
theorem getD_some {l : List Sg} {k : Nat} (h : k < l.length) : l[k]? = some (l.getD k sg0) := by simp [List.getD_eq_getElem?_getD, h]
theorem revN_0 (l : List Sg) : revN l 0 = l := by
  refine List.ext_getElem? fun k => ?_
  by_cases h : k < l.length
  · rw [revN_get l 0 k h, if_neg (by omega), getD_some h]
  · rw [List.getElem?_eq_none (by rw [revN_len]; omega), List.getElem?_eq_none (by omega)]
theorem revN_end (l : List Sg) (i : Nat) (hi : l.length ≤ 2 * i + 1) (hi2 : 2 * i ≤ l.length + 1) : revN l i = l.reverse := by
  refine List.ext_getElem? fun k => ?_
  by_cases h : k < l.length
  · rw [revN_get l i k h, List.getElem?_reverse h, getD_some (by omega)]
    split
    · rfl
    · have : l.length - 1 - k = k := by omega
      rw [this]
  · rw [List.getElem?_eq_none (by rw [revN_len]; omega), List.getElem?_eq_none (by simp; omega)]
theorem revN_step (l : List Sg) (i : Nat) (h : i < l.length - 1 - i) : ((revN l i).set i (l.getD (l.length - 1 - i) sg0)).set (l.length - 1 - i) (l.getD i sg0) = revN l (i + 1) := by
  refine List.ext_getElem? fun k => ?_
  by_cases hk : k < l.length
  · rw [revN_get l (i + 1) k hk]
    by_cases h1 : k = l.length - 1 - i
    · subst h1
      rw [List.getElem?_set_self (by simp [revN_len]; omega), if_pos (by omega)]
      congr 2; omega
    · rw [List.getElem?_set_ne (by omega)]
      by_cases h2 : k = i
      · subst h2
        rw [List.getElem?_set_self (by rw [revN_len]; omega), if_pos (by omega)]
      · rw [List.getElem?_set_ne (by omega), revN_get l i k hk]
        have : (k < i ∨ l.length - i ≤ k) ↔ (k < i + 1 ∨ l.length - (i + 1) ≤ k) := by omega
        simp only [this]
  · rw [List.getElem?_eq_none (by simp [revN_len]; omega), List.getElem?_eq_none (by rw [revN_len]; omega)]
theorem imG_set {l : List Sg} {i : Nat} {x : Sg} : (imR (l.map sgA)).set i ((sgA x).map .im) = imR ((l.set i x).map sgA) := by simp [imR, imL, List.map_set]
theorem imG_at {l : List Sg} {i : Nat} {x : Sg} (h : l[i]? = some x) : (imR (l.map sgA))[i]? = some ((sgA x).map .im) := by simp [imR, imL, h]
attribute [local irreducible] W AX Run RunD AStep AOp AOpX AStB AStH AStG Fits PCall GCall PostG Post Stop
theorem reverse_c (l : List Sg) (hl : l.length ≤ 2199023255552) : GCall Tryz.prog 118 1 (St.g [.c (.ref 0)] [(0, .row 118 (imR (l.map sgA)))] 1) (St.r (.t []) [(0, .row 118 (imR (l.reverse.map sgA)))] 1) := by
  refine GCall.introG (nt := 28) (rs := []) Tryz.func118 rfl ⟨by kernel_rfl, by kernel_rfl, by kernel_rfl⟩ (by simp) ?_
  rintro ⟨P, w0, ok0, may, np, pblk⟩ rfl rfl
  simp only [go_sem]
  repeat' (first | refine W.seq fun K hK => ?_ | refine W.block ?_ | ((first | refine wR ?_ | refine wD ?_ | refine W.skip ?_ | refine W.exit ?_ | refine W.ret (Post.ret ?_) | refine aP ?_ | refine aF ?_); simp only [go_sem, reduceCtorEq, imR_len, List.length_map]) | refine wT ?_ | refine wF ?_ | refine wC (fun h => ?_) (fun h => ?_) | refine iK ?_ | refine aI2 ?_ | (refine hK _ ?_; clear hK K) | clear hK K)
  have hw0 : IntKind.i64.wrap ((l.length : Int) - 1) = (l.length : Int) - 1 := w64 (by omega) (by omega)
  refine W.loopF (T := fun i : Nat => { t := [(0, .c (.ref 0)), (2, ft (.int .i64 (i : Nat))), (3, ft (.int .i64 ((l.length : Int) - 1 - i)))], h := [(0, .row 118 (imR ((revN l i).map sgA)))], nx := 1, ex := [], nt := 28 })
    (Inv := fun i => 2 * i ≤ l.length + 1) (μ := fun i => l.length + 1 - i) (x0 := 0) ?_ (by omega) ?_
  · refine Fits.fit [(0, 0)] [0, 2, 3] 1 rfl rfl ?_
    simp only [go_sem, hw0, revN_0, Int.natCast_zero, Int.sub_zero]
    exact Fits.rfl
  rintro i hi KL hKL
  by_cases hlt : i < l.length - 1 - i
  · have e1 : decide ((i : Int) < (l.length : Int) - 1 - i) = true := by simp; omega
    have hj : ((l.length : Int) - 1 - i) = ((l.length - 1 - i : Nat) : Int) := by omega
    obtain ⟨j, hj2⟩ : ∃ j, j = l.length - 1 - i := ⟨_, rfl⟩
    rw [hj, ← hj2] at e1
    have hgi : (revN l i)[i]? = some (l.getD i sg0) := by rw [revN_get l i i (by omega), if_neg (by omega)]
    have hgj : (revN l i)[j]? = some (l.getD j sg0) := by rw [revN_get l i j (by omega), if_neg (by omega)]
    have hst := revN_step l i hlt
    rw [← hj2] at hst
    have hrl := revN_len l i
    have e2 : decide (i < l.length) = true := by simp; omega
    have e3 : decide (j < l.length) = true := by simp; omega
    have hgi2 := imG_at hgi
    have hgj2 := imG_at hgj
    have hgj3 := imG_at (l := (revN l i).set i (l.getD j sg0)) (i := j) (x := l.getD j sg0) (by rw [List.getElem?_set_ne (by omega)]; exact hgj)
    have hw1 := w64s i (by omega)
    have hw2 : IntKind.i64.wrap ((j : Int) - 1) = (l.length : Int) - 1 - ((i + 1 : Nat) : Int) := by rw [w64 (by omega) (by omega)]; omega
    generalize l.getD i sg0 = x at *
    generalize l.getD j sg0 = y at *
    have hs1 := imG_set (l := revN l i) (i := i) (x := y)
    have hs2 := imG_set (l := (revN l i).set i y) (i := j) (x := x)
    rw [hst] at hs2
    simp only [sgA, List.map] at hgi2 hgj2 hgj3 hs1 hs2
    simp only [hj, ← hj2]
    repeat' (first | refine W.seq fun K hK => ?_ | refine W.block ?_ | ((first | refine wR ?_ | refine wD ?_ | refine W.skip ?_ | refine W.exit ?_ | refine W.ret (Post.ret ?_) | refine aP ?_ | refine aF ?_); simp only [go_sem, reduceCtorEq, imR_len, List.length_map, List.length_set, hrl, e1, e2, e3, hgi2, hgj2, hgj3, hs1, hs2, hw1, hw2]) | refine wT ?_ | refine wF ?_ | refine wC (fun h => ?_) (fun h => ?_) | refine iK ?_ | refine aI2 ?_ | (refine hK _ ?_; clear hK K) | clear hK K)
    refine hKL.to (i + 1) (by omega) (by omega) (Fits.fit [(0, 0)] [0, 2, 3] 1 rfl rfl ?_)
    simp only [go_sem, hs1, hs2, rnCss_im]
    exact Fits.rfl
  · have e1 : decide ((i : Int) < (l.length : Int) - 1 - i) = false := by simp; omega
    clear hKL
    repeat' (first | refine W.seq fun K hK => ?_ | refine W.block ?_ | ((first | refine wR ?_ | refine wD ?_ | refine W.skip ?_ | refine W.exit ?_ | refine W.ret (Post.ret ?_) | refine aP ?_ | refine aF ?_); simp only [go_sem, reduceCtorEq, e1]) | refine wT ?_ | refine wF ?_ | refine wC (fun h => ?_) (fun h => ?_) | refine iK ?_ | refine aI2 ?_ | (refine hK _ ?_; clear hK K) | clear hK K)
    refine PostG.normal (Fits.fit [(0, 0)] [] 1 rfl rfl Fits.rfl) rfl rfl ?_
    simp only [St.r, go_sem, revN_end l i (by omega) hi]
end Go.Proofs.YthlimkmjobpjoaaGreat
namespace Go.Proofs.YthlimkmjobpjoaaGreat
open Go.RowKit Go.Exe
/-! ### Walk -/
def WalkIs (l : List Spn) (root : Int) (bf : Ev → Ev → Bool) (r : Int × List Sg) : Prop :=
  if 256 < l.length then r = (6, []) else
  match spId l root with
  | none => r = (10, [])
  | some s => if (cycN (ofS l s.tr) (ofS l s.tr).length).contains root then r = (35, []) else
    ∃ n q, wkF bf (kidF (kidM l)) n s (evOf s false) (evOf s true) = some q ∧ q.length ≤ 2199023255552 ∧ r = (0, q.reverse)
abbrev pthT (r : Int × List Sg) : TV := .t [(false, [.im (.sl 118 (r.2.map sgA))]), (false, [fl (.int .i64 r.1)])]
theorem walk_nil {m : KM} {F : Nat} {caps : List AV} {args : List TV} {q : St} (h : GCall Tryz.prog 117 1 (St.g args (wkO m F caps []) 2) q) : GCall Tryz.prog 117 1 (St.g args [(0, .box 188 [.im (.mp 3 (kEA m)), .im (.fn F caps), fl (.int .i64 0), fl (.slice none 0 0)])] 1) q := by
  refine h.fits ?_
  rintro ⟨P, w0, ok0, may, np, pblk⟩ rfl rfl
  simp only [St.g]
  refine Fits.adoptB 0 188 _ 3 1 118 rfl rfl rfl rfl tE118 rfl ?_
  simp only [go_sem, List.set_cons_zero, List.set_cons_succ, List.map_nil, imR_nil]
  exact Fits.swap rfl Fits.rfl
theorem spId_mem {l : List Spn} {id : Int} {s : Spn} (h : spId l id = some s) : s ∈ l ∧ s.id = id := by
  have h2 := List.find?_some h
  exact ⟨List.mem_of_find?_eq_some h, by simpa using h2⟩
theorem kidM_mem {l : List Spn} {y : Int × List Spn} (hy : y ∈ kidM l) {z : Spn} (hz : z ∈ y.2) : z ∈ l := by
  have key : ∀ (xs : List Spn) (m : KM), (∀ y ∈ m, ∀ z ∈ y.2, z ∈ l) → (∀ x ∈ xs, x ∈ l) → ∀ y ∈ xs.foldl putK m, ∀ z ∈ y.2, z ∈ l := by
    intro xs
    induction xs with
    | nil => exact fun m h _ => h
    | cons x xs ih =>
      intro m h hx
      refine ih _ ?_ (fun z hz => hx z (by simp [hz]))
      have hxl := hx x (by simp)
      clear ih hx
      induction m with
      | nil => intro y hy z hz; simp [putK] at hy; subst hy; simp at hz; subst hz; exact hxl
      | cons u r ihr =>
        intro y hy z hz
        unfold putK at hy
        split at hy
        · rcases List.mem_cons.1 hy with rfl | hy
          · rcases List.mem_append.1 hz with hz | hz
            · exact h u (by simp) z hz
            · simp at hz; subst hz; exact hxl
          · exact h y (by simp [hy]) z hz
        · rcases List.mem_cons.1 hy with rfl | hy
          · exact h y (by simp) z hz
          · exact ihr (fun y hy => h y (by simp [hy])) y hy z hz
  refine key _ [] (by simp) (fun x hx => ?_) y hy z hz
  have := List.mem_of_mem_take (List.mem_filter.1 hx).1
  exact (srtId_perm l).mem_iff.1 this
theorem f1_103_4 : F1 Tryz.prog 99 4 4 := ⟨_, _, rfl, rfl, rfl, fun w => by kernel_rfl⟩
theorem errP {f : Nat} {args : List TV} {e : Int} (h : PCall Tryz.prog f args (.t [(false, [fl (.slice none 0 0)]), (false, [fl (.int .i64 e)])])) : PCall Tryz.prog f args (pthT (e, [])) :=
  PCall.conv (args' := args) h (Al.refl (fun _ => TLe.rfl) _) (TLe.t (Al.cons ⟨rfl, Al.cons CLe.nil Al.nil⟩ (Al.cons ⟨rfl, Al.cons CLe.rfl Al.nil⟩ Al.nil)))
attribute [local irreducible] W AX Run RunD AStep AOp AOpX AStB AStH AStG Fits PCall GCall PostG Post Stop
theorem walkTop_c (c53 : SortC Tryz.prog 164 14) (c71 : SortI Tryz.prog 56) (g85 : GrowC Tryz.prog 107 3 1 8) (l : List Spn) (root : Int) (F : Nat) (caps : List AV) (bf : Ev → Ev → Bool) (hbf : BfC F caps bf)
    (hnd : (idsOf l).Nodup) (hI : ∀ s ∈ l, I64 s.id ∧ I64 s.pa) (hT : ∀ s ∈ l, I64 s.tr) (hO : ∀ t, (idsOf (ofS l t)).Nodup ∧ ∀ s ∈ ofS l t, I64 s.id ∧ I64 s.pa) (r : Int × List Sg) (hr : WalkIs l root bf r) :
    PCall Tryz.prog 89 [spsT l, ft (.int .i64 root), .c (.im (.fn F caps))] (pthT r) := by
  have c40 := find_c l root
  have c37 := event_c
  have hF := f1_103_4
  unfold WalkIs at hr
  by_cases h256 : 256 < l.length
  · rw [if_pos h256] at hr
    subst hr
    refine errP ?_
    have e1 : decide ((l.length : Int) > 256) = true := by simp; omega
    refine PCall.intro (nt := 59) (rs := [.tmp 6, .tmp 7]) Tryz.func89 rfl ⟨by kernel_rfl, by kernel_rfl, by kernel_rfl⟩ (by simp) ?_
    rintro ⟨P, w0, ok0, may, np, pblk⟩ rfl rfl
    repeat' (first | refine W.seq fun K hK => ?_ | refine W.block ?_ | ((first | refine wR ?_ | refine wD ?_ | refine W.skip ?_ | refine W.exit ?_ | refine W.ret (Post.ret ?_) | refine aP ?_ | refine aF ?_ | refine aL ?_ | refine aU (hnn := by simp only [go_sem, reduceCtorEq, List.length_map, e1]) ?_ | refine aM ?_ | refine aN ?_ | refine aR ?_ | refine aD ?_); simp only [go_sem, reduceCtorEq, List.length_map, e1]) | refine wT ?_ | refine wF ?_ | refine wC (fun h => ?_) (fun h => ?_) | refine iK ?_ | refine aI2 ?_ | (refine hK _ ?_; clear hK K) | clear hK K)
  rw [if_neg h256] at hr
  have e1 : decide ((l.length : Int) > 256) = false := by simp; omega
  cases hs : spId l root with
  | none =>
    rw [hs] at hr
    simp only at hr
    subst hr
    refine errP ?_
    unfold findT at c40
    rw [hs] at c40
    simp only [zSpn] at c40
    refine PCall.intro (nt := 59) (rs := [.tmp 6, .tmp 7]) Tryz.func89 rfl ⟨by kernel_rfl, by kernel_rfl, by kernel_rfl⟩ (by simp) ?_
    rintro ⟨P, w0, ok0, may, np, pblk⟩ rfl rfl
    repeat' (first | refine W.seq fun K hK => ?_ | refine W.block ?_ | ((first | refine wR ?_ | refine wD ?_ | refine W.skip ?_ | refine W.exit ?_ | refine W.ret (Post.ret ?_) | refine aP ?_ | refine aF ?_ | refine aL ?_ | refine aU (hnn := by simp only [go_sem, reduceCtorEq, List.length_map, e1]) ?_ | refine aM ?_ | refine aN ?_ | refine aR ?_ | refine aD ?_); simp only [go_sem, reduceCtorEq, List.length_map, e1]) | refine wT ?_ | refine wF ?_ | refine wC (fun h => ?_) (fun h => ?_) | refine iK ?_ | refine aI2 ?_ | (refine hK _ ?_; clear hK K) | clear hK K)
  | some s =>
    rw [hs] at hr
    simp only at hr
    obtain ⟨hsl, hsid⟩ := spId_mem hs
    have ct := build_c c53 c71 g85 l s.tr (hO s.tr).1 (hO s.tr).2
    unfold findT at c40
    rw [hs] at c40
    simp only [spA, List.map] at c40
    simp only [trT, trA, treeOf, List.map] at ct
    have cc := contains_c (cycN (ofS l s.tr) (ofS l s.tr).length) root
    by_cases hcy : (cycN (ofS l s.tr) (ofS l s.tr).length).contains root = true
    · rw [if_pos hcy] at hr
      subst hr
      rw [hcy] at cc
      refine errP ?_
      refine PCall.intro (nt := 59) (rs := [.tmp 6, .tmp 7]) Tryz.func89 rfl ⟨by kernel_rfl, by kernel_rfl, by kernel_rfl⟩ (by simp) ?_
      rintro ⟨P, w0, ok0, may, np, pblk⟩ rfl rfl
      repeat' (first | refine W.seq fun K hK => ?_ | refine W.block ?_ | ((first | refine wR ?_ | refine wD ?_ | refine W.skip ?_ | refine W.exit ?_ | refine W.ret (Post.ret ?_) | refine aP ?_ | refine aF ?_ | refine aL ?_ | refine aU (hnn := by simp only [go_sem, reduceCtorEq, List.length_map, e1]) ?_ | refine aM ?_ | refine aN ?_ | refine aR ?_ | refine aD ?_); simp only [go_sem, reduceCtorEq, List.length_map, e1]) | refine wT ?_ | refine wF ?_ | refine wC (fun h => ?_) (fun h => ?_) | refine iK ?_ | refine aI2 ?_ | (refine hK _ ?_; clear hK K) | clear hK K)
    · rw [if_neg hcy] at hr
      rw [Bool.not_eq_true] at hcy
      rw [hcy] at cc
      obtain ⟨n, q, hq, hql, rfl⟩ := hr
      have hll : l.length * 168 ≤ 140737488355328 := by omega
      have cb := blocking_c c53 l hnd (fun z hz => (hI z hz).2) hll
      have hK1 : ∀ y ∈ kidM l, y.2.length ≤ 140737488355328 := fun y hy => by
        have h1 := kmN_len (srtId l) (srtId l).length y hy
        rw [(srtId_perm l).length_eq] at h1
        omega
      have cw := walk_nil (walk_c (kidM l) hK1 (fun y hy z hz => ⟨hT z (kidM_mem hy hz), (hI z (kidM_mem hy hz)).1⟩) F caps bf hbf n s _ _ q hq (hI s hsl).1 (show okE (evOf s false) from ⟨hT s hsl, (hI s hsl).1⟩) (show okE (evOf s true) from ⟨hT s hsl, (hI s hsl).1⟩) [] (by simpa using hql))
      have cs := c37 s false
      have ce := c37 s true
      have cv := reverse_c q hql
      clear c53 c71 g85 hbf hO hI c37 hq hs hK1
      simp only [spT, spA, evT, evA, evOf, List.map, List.nil_append] at cs ce cw
      refine PCall.intro (nt := 59) (rs := [.tmp 6, .tmp 7]) Tryz.func89 rfl ⟨by kernel_rfl, by kernel_rfl, by kernel_rfl⟩ (by simp) ?_
      rintro ⟨P, w0, ok0, may, np, pblk⟩ rfl rfl
      repeat' (first | refine W.seq fun K hK => ?_ | refine W.block ?_ | ((first | refine wR ?_ | refine wD ?_ | refine W.skip ?_ | refine W.exit ?_ | refine W.ret (Post.ret ?_) | refine aP ?_ | refine aF ?_ | refine aL ?_ | refine aU (hnn := by simp only [go_sem, reduceCtorEq, List.length_map, e1]) ?_ | refine aM ?_ | refine aN ?_ | refine aR ?_ | refine aD ?_); simp only [go_sem, reduceCtorEq, List.length_map, e1]) | refine wT ?_ | refine wF ?_ | refine wC (fun h => ?_) (fun h => ?_) | refine iK ?_ | refine aI2 ?_ | (refine hK _ ?_; clear hK K) | clear hK K)
      refine AX.gcall [27] rfl rfl (cw) (by simp only [go_sem, reduceCtorEq]) (by simp only [go_sem, reduceCtorEq]) rfl rfl (by simp only [go_sem, Obj.owns]) rfl (by simp only [go_sem, Obj.owns]) rfl rfl ?_
      simp only [go_sem, reduceCtorEq]
      repeat' (first | refine W.seq fun K hK => ?_ | refine W.block ?_ | ((first | refine wR ?_ | refine wD ?_ | refine W.skip ?_ | refine W.exit ?_ | refine W.ret (Post.ret ?_) | refine aP ?_ | refine aF ?_ | refine aL ?_ | refine aU ?_ | refine aM ?_ | refine aN ?_ | refine aR ?_ | refine aD ?_); simp only [go_sem, reduceCtorEq]) | refine wT ?_ | refine wF ?_ | refine wC (fun h => ?_) (fun h => ?_) | refine iK ?_ | refine aI2 ?_ | (refine hK _ ?_; clear hK K) | clear hK K)
      refine AX.gcall [35] rfl rfl (cv) (by simp only [go_sem, reduceCtorEq]) (by simp only [go_sem, reduceCtorEq]) rfl rfl (by simp only [go_sem, Obj.owns]) rfl (by simp only [go_sem, Obj.owns]) rfl rfl ?_
      simp only [go_sem, reduceCtorEq]
      repeat' (first | refine W.seq fun K hK => ?_ | refine W.block ?_ | ((first | refine wR ?_ | refine wD ?_ | refine W.skip ?_ | refine W.exit ?_ | refine W.ret (Post.ret ?_) | refine aP ?_ | refine aF ?_ | refine aL ?_ | refine aU (hnn := by simp only [go_sem, reduceCtorEq, unim_im]) ?_ | refine aM ?_ | refine aN ?_ | refine aR ?_ | refine aD ?_); simp only [go_sem, reduceCtorEq, unim_im]) | refine wT ?_ | refine wF ?_ | refine wC (fun h => ?_) (fun h => ?_) | refine iK ?_ | refine aI2 ?_ | (refine hK _ ?_; clear hK K) | clear hK K)
end Go.Proofs.YthlimkmjobpjoaaGreat
namespace Go.Proofs.YthlimkmjobpjoaaGreat
open Go.RowKit Go.Exe
/-! ### the times of the events -/
theorem wf64 {n : Int} (h : I64 n) : (Lit.int IntKind.i64 n).wf = true := by
  obtain ⟨h1, h2⟩ := h
  show (decide (-9223372036854775808 ≤ n) && decide (n ≤ 9223372036854775807)) = true
  simp
  exact ⟨h1, h2⟩
theorem kl3 (d : Nat) {n : Int} (h : I64 n) : Tryz.prog.keyLits (d + 1) 3 [.int .i64 n] = some [.int .i64 n] := by
  simp only [Program.keyLits, tU3]
  rw [if_pos ⟨trivial, wf64 h⟩]
theorem kl4 (d : Nat) (b : Bool) : Tryz.prog.keyLits (d + 1) 4 [.bool b] = some [.bool b] := by
  simp only [Program.keyLits, tU4]
theorem co3 : Tryz.prog.cellsOf 3 = 1 := by kernel_rfl
theorem co4 : Tryz.prog.cellsOf 4 = 1 := by kernel_rfl
theorem co50 : Tryz.prog.cellsOf 114 = 2 := by kernel_rfl
theorem co52 : Tryz.prog.cellsOf 116 = 3 := by kernel_rfl
theorem al50 : (Tryz.prog.fieldsOf 114).all (·.name != "_") = true := by kernel_rfl
theorem al52 : (Tryz.prog.fieldsOf 116).all (·.name != "_") = true := by kernel_rfl
theorem kl50 (d : Nat) {a b : Int} (ha : I64 a) (hb : I64 b) : Tryz.prog.keyLits (d + 2) 114 [.int .i64 a, .int .i64 b] = some [.int .i64 a, .int .i64 b] := by
  unfold Program.keyLits
  simp only [st56]
  simp only [co50, List.length_cons, List.length_nil, al50, and_self, if_true, fields56, List.mapM_cons, List.mapM_nil, co3, List.drop, List.take, kl3 d ha, kl3 d hb]
  rfl
theorem kl52 (d : Nat) {a b : Int} (e : Bool) (ha : I64 a) (hb : I64 b) : Tryz.prog.keyLits (d + 3) 116 [.int .i64 a, .int .i64 b, .bool e] = some [.int .i64 a, .int .i64 b, .bool e] := by
  unfold Program.keyLits
  simp only [st52]
  simp only [co52, List.length_cons, List.length_nil, al52, and_self, if_true, fields52, List.mapM_cons, List.mapM_nil, co50, co4, List.drop, List.take, kl50 d ha hb, kl4]
  rfl
def evV (x : Ev) : Value := .agg #[.int .i64 x.tr, .int .i64 x.id, .bool x.en]
theorem kt52 : Tryz.prog.keyType 116 = true := by kernel_rfl
theorem tsz : Nat.ble 3 (Tryz.prog.types.size + 1) = true := by kernel_rfl
theorem koE {x : Ev} (h : okE x) : KeyOk Tryz.prog 116 (evV x) := by
  obtain ⟨n, hn⟩ : ∃ n, Tryz.prog.types.size + 1 = n + 3 := ⟨Tryz.prog.types.size + 1 - 3, (Nat.sub_add_cancel (Nat.le_of_ble_eq_true tsz)).symm⟩
  unfold KeyOk
  have hf : (evV x).formed Tryz.prog 116 = true := by
    unfold evV Value.formed
    simp only [st52, co52]
    rfl
  have hc : (evV x).cells.toList = [.int .i64 x.tr, .int .i64 x.id, .bool x.en] := rfl
  refine ⟨.string (keyBytes [.int .i64 x.tr, .int .i64 x.id, .bool x.en]), ?_⟩
  unfold keyOf
  simp only [st52, kt52, hf, Bool.and_self, if_true, hc, hn, kl52 n x.en h.1 h.2]
  rfl
theorem evV_inj {x y : Ev} (h : evV x = evV y) : x = y := by
  obtain ⟨a, b, c⟩ := x
  obtain ⟨a2, b2, c2⟩ := y
  simp [evV] at h
  obtain ⟨rfl, rfl, rfl⟩ := h
  rfl
abbrev TM := List (Ev × Int)
def putT (m : TM) (x : Ev × Int) : TM := match m with
  | [] => [x]
  | y :: r => if y.1 = x.1 then x :: r else y :: putT r x
def getT (m : TM) (k : Ev) : Option Int := match m with
  | [] => none
  | y :: r => if y.1 = k then some y.2 else getT r k
def tmE (m : TM) : List (Value × Bool × List Cell) := m.map fun x => (evV x.1, false, [fl (.int .i64 x.2)])
def tmEA (m : TM) : List (Value × Bool × List AV) := m.map fun x => (evV x.1, false, [.flat (.int .i64 x.2)])
theorem tmE_close (m : TM) : closeE (tmE m) = some (tmEA m) := closeE_map _ _ (fun x => ⟨rfl, rfl, by simp [closeL, closeC]⟩) m
theorem rnEs_tmE (r : Ren) (m : TM) : rnEs r (tmE m) = tmE m := rnEs_map r _ (fun _ => rfl) _
theorem tmE_put (m : TM) (k : Ev) (n : Int) : mput (evV k) (false, [fl (.int .i64 n)]) (tmE m) = tmE (putT m (k, n)) := by
  induction m with
  | nil => rfl
  | cons y r ih =>
    simp only [tmE, List.map_cons, mput, putT] at ih ⊢
    by_cases h : y.1 = k
    · simp [h]
    · have : ¬ (evV y.1 = evV k) := fun e => h (evV_inj e)
      simp [h, this, ih]
theorem tmE_mget (k : Ev) : ∀ m : TM, mget (evV k) (tmE m) = (getT m k).map fun n => (false, [fl (.int .i64 n)])
  | [] => rfl
  | y :: r => by
    have ih := tmE_mget k r
    simp only [tmE, List.map_cons, mget, getT] at ih ⊢
    by_cases h : y.1 = k
    · simp [h]
    · have : ¬ (evV y.1 = evV k) := fun e => h (evV_inj e)
      simp [h, this, ih]
theorem froE_tm (m : TM) : froE (tmEA m) = tmE m := by
  rw [froE_map]; simp [tmEA, tmE, imL]
def tmv (m : TM) (x : Ev) : Int := (getT m x).getD 0
attribute [local irreducible] W AX Run RunD AStep AOp AOpX AStB AStH AStG Fits PCall GCall PostG Post Stop
theorem path1_c (m : TM) : BfC 90 [.pt [.mp 116 (tmEA m)]] (fun x y => decide (tmv m x < tmv m y)) := by
  intro x y hx hy
  have k1 := koE hx
  have k2 := koE hy
  have g1 := tmE_mget x m
  have g2 := tmE_mget y m
  rw [← froE_tm] at g1 g2
  unfold tmv
  simp only [evA, evV, List.map] at k1 k2 g1 g2 ⊢
  refine PCall.intro (nt := 14) (rs := [.tmp 5, .tmp 6]) Tryz.func90 rfl ⟨by kernel_rfl, by kernel_rfl, by kernel_rfl⟩ (by simp) ?_
  rintro ⟨P, w0, ok0, may, np, pblk⟩ rfl rfl
  cases h1 : getT m x with
  | none =>
    rw [h1] at g1
    simp only [Option.map_none] at g1
    cases h2 : getT m y with
    | none =>
      rw [h2] at g2
      simp only [Option.map_none] at g2
      repeat' (first | refine W.seq fun K hK => ?_ | refine W.block ?_ | ((first | refine wR ?_ | refine wD ?_ | refine W.skip ?_ | refine W.exit ?_ | refine W.ret (Post.ret ?_) | refine aP ?_ | refine aF ?_ | refine aL ?_ | refine aU (hnn := by simp only [go_sem, reduceCtorEq, g1, g2]) ?_ | refine aM ?_ | refine aN ?_ | refine aR ?_); simp only [go_sem, reduceCtorEq, g1, g2]) | refine wT ?_ | refine wF ?_ | refine wC (fun h => ?_) (fun h => ?_) | refine iK ?_ | refine aI2 ?_ | (refine hK _ ?_; clear hK K) | clear hK K)
    | some n =>
      rw [h2] at g2
      simp only [Option.map_some] at g2
      repeat' (first | refine W.seq fun K hK => ?_ | refine W.block ?_ | ((first | refine wR ?_ | refine wD ?_ | refine W.skip ?_ | refine W.exit ?_ | refine W.ret (Post.ret ?_) | refine aP ?_ | refine aF ?_ | refine aL ?_ | refine aU (hnn := by simp only [go_sem, reduceCtorEq, g1, g2]) ?_ | refine aM ?_ | refine aN ?_ | refine aR ?_); simp only [go_sem, reduceCtorEq, g1, g2]) | refine wT ?_ | refine wF ?_ | refine wC (fun h => ?_) (fun h => ?_) | refine iK ?_ | refine aI2 ?_ | (refine hK _ ?_; clear hK K) | clear hK K)
  | some n =>
    rw [h1] at g1
    simp only [Option.map_some] at g1
    cases h2 : getT m y with
    | none =>
      rw [h2] at g2
      simp only [Option.map_none] at g2
      repeat' (first | refine W.seq fun K hK => ?_ | refine W.block ?_ | ((first | refine wR ?_ | refine wD ?_ | refine W.skip ?_ | refine W.exit ?_ | refine W.ret (Post.ret ?_) | refine aP ?_ | refine aF ?_ | refine aL ?_ | refine aU (hnn := by simp only [go_sem, reduceCtorEq, g1, g2]) ?_ | refine aM ?_ | refine aN ?_ | refine aR ?_); simp only [go_sem, reduceCtorEq, g1, g2]) | refine wT ?_ | refine wF ?_ | refine wC (fun h => ?_) (fun h => ?_) | refine iK ?_ | refine aI2 ?_ | (refine hK _ ?_; clear hK K) | clear hK K)
    | some n =>
      rw [h2] at g2
      simp only [Option.map_some] at g2
      repeat' (first | refine W.seq fun K hK => ?_ | refine W.block ?_ | ((first | refine wR ?_ | refine wD ?_ | refine W.skip ?_ | refine W.exit ?_ | refine W.ret (Post.ret ?_) | refine aP ?_ | refine aF ?_ | refine aL ?_ | refine aU (hnn := by simp only [go_sem, reduceCtorEq, g1, g2]) ?_ | refine aM ?_ | refine aN ?_ | refine aR ?_); simp only [go_sem, reduceCtorEq, g1, g2]) | refine wT ?_ | refine wF ?_ | refine wC (fun h => ?_) (fun h => ?_) | refine iK ?_ | refine aI2 ?_ | (refine hK _ ?_; clear hK K) | clear hK K)
end Go.Proofs.YthlimkmjobpjoaaGreat
namespace Go.Proofs.YthlimkmjobpjoaaGreat
open Go.RowKit Go.Exe
/-! ### Path -/
def atV (v : List Of) (s : Spn) (e : Bool) : Int := IntKind.i64.wrap (atS s e - offK v s.clk)
def tmN (l : List Spn) (v : List Of) (n : Nat) : TM := (l.take n).foldl (fun m s => putT (putT m (evOf s false, atV v s false)) (evOf s true, atV v s true)) []
def bfT (l : List Spn) (v : List Of) (x y : Ev) : Bool := decide (tmv (tmN l v l.length) x < tmv (tmN l v l.length) y)
theorem tmN_step {l : List Spn} {v : List Of} {i : Nat} {s : Spn} (h : l[i]? = some s) : tmN l v (i + 1) = putT (putT (tmN l v i) (evOf s false, atV v s false)) (evOf s true, atV v s true) := by
  simp [tmN, List.take_add_one, h]
attribute [local irreducible] W AX Run RunD AStep AOp AOpX AStB AStH AStG Fits PCall GCall PostG Post Stop
theorem path_c0 (l : List Spn) (v : List Of) (root : Int) (hclk : ∀ s ∈ l, I64 s.clk) (hv : ∀ x ∈ v, I64 x.1) (hT : ∀ s ∈ l, I64 s.tr ∧ I64 s.id) (r : Int × List Sg)
    (c16 : chkE l v = 0 → PCall Tryz.prog 89 [spsT l, ft (.int .i64 root), .c (.im (.fn 90 [.pt [.mp 116 (tmEA (tmN l v l.length))]]))] (pthT r)) (hr : chkE l v ≠ 0 → r = (chkE l v, [])) :
    PCall Tryz.prog 50 [spsT l, ofsT v, ft (.int .i64 root)] (pthT r) := by
  have c20 := check_c l v hclk hv
  have c35 := offsets_c v hv
  have c36 := fun s e h => at_c s e v h
  have c37 := event_c
  by_cases h0 : chkE l v = 0
  · have c16 := c16 h0
    clear hr hv
    rw [h0] at c20
    refine PCall.intro (nt := 49) (rs := [.tmp 6, .tmp 7]) Tryz.func50 rfl ⟨by kernel_rfl, by kernel_rfl, by kernel_rfl⟩ (by simp) ?_
    rintro ⟨P, w0, ok0, may, np, pblk⟩ rfl rfl
    refine W.lenB 0 rfl tE42 fun hl0 hl1 => ?_
    rw [List.length_map] at hl1
    repeat' (first | refine W.seq fun K hK => ?_ | refine W.block ?_ | ((first | refine wR ?_ | refine wD ?_ | refine W.skip ?_ | refine W.exit ?_ | refine W.ret (Post.ret ?_) | refine aP ?_ | refine aF ?_ | refine aL ?_ | refine aU (hnn := by simp only [go_sem, reduceCtorEq, List.length_map]) ?_ | refine aM ?_ | refine aN ?_ | refine aR ?_ | refine aK ?_); simp only [go_sem, reduceCtorEq, List.length_map]) | refine wT ?_ | refine wF ?_ | refine wC (fun h => ?_) (fun h => ?_) | refine iK ?_ | refine aI2 ?_ | (refine hK _ ?_; clear hK K) | clear hK K)
    clear c20 c35
    refine W.loopF (T := fun i : Nat => { t := [(0, spsT l), (2, ft (.int .i64 root)), (9, ofmT v), (10, .c (.ptr 1 0)), (22, spsT l), (23, ft (.int .i64 l.length)), (24, ft (.int .i64 (i : Nat)))], h := [(0, .map 116 (tmE (tmN l v i))), (1, .box 155 [.mp 0])], nx := 2, ex := [], nt := 49 })
      (Inv := fun i => i ≤ l.length) (μ := fun i => l.length - i) (x0 := 0) ?_ (Nat.zero_le _) ?_
    · refine Fits.fit [(11, 0), (12, 1)] [0, 2, 9, 10, 22, 23, 24] 2 rfl rfl ?_
      simp only [go_sem, tmN, List.take_zero, List.foldl_nil, tmE, List.map_nil]
      exact Fits.rfl
    rintro i hi KL hKL
    by_cases hlt : i < l.length
    · obtain ⟨s, hx, hm, hd⟩ := drop_at hlt
      have e1 : decide ((i : Int) < l.length) = true := by simp; omega
      have e2 : decide (i < l.length) = true := by simp; omega
      have hw := w64s i (by omega)
      have hst := tmN_step (v := v) hx
      obtain ⟨m1, hm1⟩ : ∃ m, m = tmN l v (i + 1) := ⟨_, rfl⟩
      rw [← hm1] at hst
      have cs := c37 s false
      have ce := c37 s true
      have a0 := c36 s false (hclk s hm)
      have a1 := c36 s true (hclk s hm)
      have k0 : KeyOk Tryz.prog 116 (evV (evOf s false)) := koE (hT s hm)
      have k1 : KeyOk Tryz.prog 116 (evV (evOf s true)) := koE (hT s hm)
      clear c36 c37 c16
      generalize tmN l v i = m at *
      have hg := tmE_mget (evOf s false) m
      obtain ⟨m2, hm2⟩ : ∃ x, x = putT m (evOf s false, atV v s false) := ⟨_, rfl⟩
      have hput1 := tmE_put m (evOf s false) (atV v s false)
      rw [← hm2] at hst hput1
      have hput2 := tmE_put m2 (evOf s true) (atV v s true)
      rw [← hst] at hput2
      have hno := tmE_mget (evOf s true) m2
      have hcs : mget (evV (evOf s true)) (tmE m2) = none ∨ ∃ n, mget (evV (evOf s true)) (tmE m2) = some (false, [fl (.int .i64 n)]) := by
        rw [hno]
        cases getT m2 (evOf s true)
        · exact .inl rfl
        · exact .inr ⟨_, rfl⟩
      have hg : mget (evV (evOf s false)) (tmE m) = ((getT m (evOf s false)).map (Value.int .i64)).map fun x => (false, [fl x]) := by
        rw [hg, Option.map_map]; rfl
      generalize (getT m (evOf s false)).map (Value.int .i64) = old at hg
      have hse := setE_mput (evV (evOf s false)) (false, [fl (old.getD (.int .i64 0))]) (fl (.int .i64 (atV v s false))) rfl (tmE m)
      rw [hput1] at hse
      have hmg := mput_get (evV (evOf s false)) (false, [fl (old.getD (.int .i64 0))]) (tmE m)
      clear hno hput1
      unfold atV at hse hput2
      simp only [spT, spA, evV, evT, evA, evOf, List.map] at cs ce a0 a1 k0 k1 hg hput2 hcs hse hmg
      repeat' (first | refine W.seq fun K hK => ?_ | refine W.block ?_ | ((first | refine wR ?_ | refine wD ?_ | refine W.skip ?_ | refine W.exit ?_ | refine W.ret (Post.ret ?_) | refine aP ?_ | refine aF ?_ | refine aL ?_ | refine aU (hnn := by simp only [go_sem, reduceCtorEq, List.getElem?_map, hx, spA, e1, e2, hw]) ?_ | refine aM ?_ | refine aN ?_ | refine aR ?_ | refine aK ?_); simp only [go_sem, reduceCtorEq, List.getElem?_map, hx, spA, e1, e2, hw]) | refine wT ?_ | refine wF ?_ | refine wC (fun h => ?_) (fun h => ?_) | refine iK ?_ | refine aI2 ?_ | (refine hK _ ?_; clear hK K) | clear hK K)
      refine AX.mapEntry (old := old) (es := tmE m) rfl (aTM rfl) tG3 kd116 rfl rfl rfl k0 hg rfl ?_
      simp only [go_sem]
      repeat' (first | refine W.seq fun K hK => ?_ | refine W.block ?_ | ((first | refine wR ?_ | refine wD ?_ | refine W.skip ?_ | refine W.exit ?_ | refine W.ret (Post.ret ?_) | refine aP ?_ | refine aF ?_ | refine aL ?_ | refine aU ?_ | refine aM ?_ | refine aN ?_ | refine aR ?_ | refine aK ?_); simp only [go_sem, reduceCtorEq]) | refine wT ?_ | refine wF ?_ | refine wC (fun h => ?_) (fun h => ?_) | refine iK ?_ | refine aI2 ?_ | (refine hK _ ?_; clear hK K) | clear hK K)
      refine AX.entryStore rfl rfl rfl rfl rfl hmg rfl rfl ?_
      simp only [go_sem, hse]
      rcases hcs with hno | ⟨n, hno⟩
      all_goals
        repeat' (first | refine W.seq fun K hK => ?_ | refine W.block ?_ | ((first | refine wR ?_ | refine wD ?_ | refine W.skip ?_ | refine W.exit ?_ | refine W.ret (Post.ret ?_) | refine aP ?_ | refine aF ?_ | refine aL ?_ | refine aU (hnn := by simp only [go_sem, reduceCtorEq, hput2, hno, hw]) ?_ | refine aM ?_ | refine aN ?_ | refine aR ?_ | refine aK ?_); simp only [go_sem, reduceCtorEq, hput2, hno, hw]) | refine wT ?_ | refine wF ?_ | refine wC (fun h => ?_) (fun h => ?_) | refine iK ?_ | refine aI2 ?_ | (refine hK _ ?_; clear hK K) | clear hK K)
      all_goals refine hKL.to (i + 1) (by omega) (by omega) (Fits.fit [(0, 0), (1, 1)] [0, 2, 9, 10, 22, 23, 24] 2 rfl rfl ?_)
      all_goals simp only [go_sem, rnEs_tmE, hm1]
      all_goals exact Fits.rfl
    · obtain rfl : i = l.length := by omega
      have e1 : decide ((l.length : Int) < l.length) = false := by simp
      clear hKL
      repeat' (first | refine W.stop (id := 11) ?_ | refine W.seq fun K hK => ?_ | refine W.block ?_ | ((first | refine wR ?_ | refine wD ?_ | refine W.skip ?_ | refine W.exit ?_ | refine W.ret (Post.ret ?_) | refine aP ?_ | refine aF ?_ | refine aL ?_ | refine aU (hnn := by simp only [go_sem, reduceCtorEq, e1]) ?_ | refine aM ?_ | refine aN ?_ | refine aR ?_ | refine aK ?_); simp only [go_sem, reduceCtorEq, e1]) | refine wT ?_ | refine wF ?_ | refine wC (fun h => ?_) (fun h => ?_) | refine iK ?_ | refine aI2 ?_ | (refine hK _ ?_; clear hK K) | clear hK K)
      refine Stop.out ?_
      refine W.fits (Fits.freezeM 0 rfl (tmE_close _) (Fits.seeO 1 0 rfl rfl Fits.rfl)) ?_
      simp only [go_sem, Obj.see1]
      repeat' (first | refine W.seq fun K hK => ?_ | refine W.block ?_ | ((first | refine wR ?_ | refine wD ?_ | refine W.skip ?_ | refine W.exit ?_ | refine W.ret (Post.ret ?_) | refine aP ?_ | refine aF ?_ | refine aL ?_ | refine aU ?_ | refine aM ?_ | refine aN ?_ | refine aR ?_ | refine aK ?_); simp only [go_sem, reduceCtorEq]) | refine wT ?_ | refine wF ?_ | refine wC (fun h => ?_) (fun h => ?_) | refine iK ?_ | refine aI2 ?_ | (refine hK _ ?_; clear hK K) | clear hK K)
  · have hr := hr h0
    subst hr
    refine errP ?_
    have e2 : (chkE l v == 0) = false := by simp [h0]
    have e3 : (chkE l v != 0) = true := by simp [h0]
    refine PCall.intro (nt := 49) (rs := [.tmp 6, .tmp 7]) Tryz.func50 rfl ⟨by kernel_rfl, by kernel_rfl, by kernel_rfl⟩ (by simp) ?_
    rintro ⟨P, w0, ok0, may, np, pblk⟩ rfl rfl
    repeat' (first | refine W.seq fun K hK => ?_ | refine W.block ?_ | ((first | refine wR ?_ | refine wD ?_ | refine W.skip ?_ | refine W.exit ?_ | refine W.ret (Post.ret ?_) | refine aP ?_ | refine aF ?_ | refine aL ?_ | refine aU (hnn := by simp only [go_sem, reduceCtorEq, e2, e3]) ?_ | refine aM ?_ | refine aN ?_ | refine aR ?_ | refine aK ?_); simp only [go_sem, reduceCtorEq, e2, e3]) | refine wT ?_ | refine wF ?_ | refine wC (fun h => ?_) (fun h => ?_) | refine iK ?_ | refine aI2 ?_ | (refine hK _ ?_; clear hK K) | clear hK K)
end Go.Proofs.YthlimkmjobpjoaaGreat
namespace Go.Proofs.YthlimkmjobpjoaaGreat
open Go.RowKit Go.Exe
theorem kidF_is (l : List Spn) (k : Int) : kidF (kidM l) k = (srtId l).filter fun s => blk s && s.pa == k := getK_km (srtId l) k
theorem getT_put (m : TM) (x : Ev × Int) (k : Ev) : getT (putT m x) k = if x.1 = k then some x.2 else getT m k := by
  induction m with
  | nil => simp [putT, getT]
  | cons y r ih =>
    simp only [putT, getT]
    by_cases h : y.1 = x.1
    · rw [if_pos h]
      simp only [getT]
      by_cases h2 : x.1 = k
      · simp [h2]
      · have : ¬ y.1 = k := by rw [h]; exact h2
        simp [h2, this]
    · rw [if_neg h]
      simp only [getT, ih]
      by_cases h2 : y.1 = k
      · have : ¬ x.1 = k := fun e => h (by rw [h2, e])
        simp [h2, this]
      · simp [h2]
theorem evOf_ne {a b : Spn} (h : a.id ≠ b.id) (e f : Bool) : evOf a e ≠ evOf b f := fun x => h (by simpa [evOf] using congrArg Ev.id x)
/-- The time that Path's map holds for an event of the set. -/
theorem tmv_is {l : List Spn} (v : List Of) (hn : (idsOf l).Nodup) {s : Spn} (hs : s ∈ l) (e : Bool) : tmv (tmN l v l.length) (evOf s e) = atV v s e := by
  have out : ∀ (l : List Spn) (m : TM), s.id ∉ idsOf l → getT (l.foldl (fun m s => putT (putT m (evOf s false, atV v s false)) (evOf s true, atV v s true)) m) (evOf s e) = getT m (evOf s e) := by
    intro l
    induction l with
    | nil => exact fun m _ => rfl
    | cons x l ih =>
      intro m h
      simp only [idsOf, List.map_cons, List.mem_cons, not_or] at h
      rw [List.foldl_cons, ih _ h.2, getT_put, getT_put, if_neg (evOf_ne (fun e => h.1 e.symm) _ _), if_neg (evOf_ne (fun e => h.1 e.symm) _ _)]
  have key : ∀ (l : List Spn) (m : TM), (idsOf l).Nodup → s ∈ l → getT (l.foldl (fun m s => putT (putT m (evOf s false, atV v s false)) (evOf s true, atV v s true)) m) (evOf s e) = some (atV v s e) := by
    intro l
    induction l with
    | nil => intro m _ h; simp at h
    | cons x l ih =>
      intro m hn h
      simp only [idsOf, List.map_cons, List.nodup_cons] at hn
      rw [List.foldl_cons]
      rcases List.mem_cons.1 h with rfl | h
      · rw [out l _ hn.1, getT_put, getT_put]
        cases e
        · rw [if_neg (by simp [evOf]), if_pos rfl]
        · rw [if_pos rfl]
      · exact ih _ hn.2 h
  unfold tmv tmN
  rw [List.take_length, key l [] hn hs]
  rfl
end Go.Proofs.YthlimkmjobpjoaaGreat
namespace Go.Proofs.YthlimkmjobpjoaaGreat
open Go.RowKit Go.Exe
/-! ### the walk ends -/
theorem chooseF_is {bf : Ev → Ev → Bool} {l : List Spn} {lo cur : Ev} {y : Spn × Ev} (h : chooseF bf l lo cur = some y) : y.1 ∈ l ∧ askB bf (evOf y.1 false) cur = true ∧ (y.2 = cur ∨ askB bf y.2 cur = true) := by
  have key : ∀ (l : List Spn) (acc : Option (Spn × Ev)) (y : Spn × Ev), l.foldl (chStep bf lo cur) acc = some y → (y.1 ∈ l ∧ askB bf (evOf y.1 false) cur = true ∧ (y.2 = cur ∨ askB bf y.2 cur = true)) ∨ acc = some y := by
    intro l
    induction l with
    | nil => intro acc y h; exact .inr h
    | cons k l ih =>
      intro acc y h
      rcases ih _ _ h with h | h
      · exact .inl ⟨by simp [h.1], h.2⟩
      · rw [chStep_eq] at h
        by_cases hA : (askB bf (evOf k false) cur && askB bf lo (evOf k true) && askB bf (evOf k false) (evOf k true)) = true
        · rw [if_pos hA] at h
          have hA1 : askB bf (evOf k false) cur = true := by simp only [Bool.and_eq_true] at hA; exact hA.1.1
          have hv : (if askB bf (evOf k true) cur = true then evOf k true else cur) = cur ∨ askB bf (if askB bf (evOf k true) cur = true then evOf k true else cur) cur = true := by
            by_cases hB : askB bf (evOf k true) cur = true
            · rw [if_pos hB]; exact .inr hB
            · rw [if_neg hB]; exact .inl rfl
          generalize (if askB bf (evOf k true) cur = true then evOf k true else cur) = v at h hv
          cases acc with
          | none =>
            simp only [Option.some.injEq] at h
            subst h
            exact .inl ⟨by simp, hA1, hv⟩
          | some y0 =>
            simp only at h
            by_cases hB : askB bf y0.2 v = true
            · rw [if_pos hB] at h
              simp only [Option.some.injEq] at h
              subst h
              exact .inl ⟨by simp, hA1, hv⟩
            · rw [if_neg hB] at h; exact .inr h
        · rw [if_neg hA] at h; exact .inr h
  rcases key l none y h with h | h
  · exact h
  · simp at h
theorem wkF_len {bf : Ev → Ev → Bool} {kid : Int → List Spn} : ∀ {n : Nat} {s : Spn} {lo cur : Ev} {q : List Sg}, wkF bf kid n s lo cur = some q → q.length + 1 ≤ 2 ^ n
  | 0, _, _, _, _, h => by simp [wkF] at h
  | n + 1, s, lo, cur, q, h => by
    have hp : 1 ≤ 2 ^ n := Nat.one_le_two_pow
    have hs : 2 ^ (n + 1) = 2 ^ n + 2 ^ n := by rw [Nat.pow_succ]; omega
    cases hA : askB bf lo cur with
    | false => rw [wkF_no h hA]; simp; omega
    | true =>
      cases hC : chooseF bf (kid s.id) lo cur with
      | none => rw [wkF_none h hA hC]; simp; omega
      | some y =>
        obtain ⟨c, v⟩ := y
        obtain ⟨q1, q2, h1, h2, rfl⟩ := wkF_some h hA hC
        have h1 := wkF_len h1
        have h2 := wkF_len h2
        have h3 : (if v = cur then ([] : List Sg) else [⟨(s.tr, s.id), v, cur⟩]).length ≤ 1 := by split <;> simp
        simp only [List.length_append]
        omega
def evsL (ss : List Spn) : List Ev := ss.flatMap fun s => [evOf s false, evOf s true]
def rkE (ss : List Spn) (tm : Ev → Int) (x : Ev) : Nat := (evsL ss).countP fun y => decide (tm y < tm x)
theorem evsL_len (ss : List Spn) : (evsL ss).length = 2 * ss.length := by
  induction ss with
  | nil => rfl
  | cons s ss ih => simp only [evsL, List.flatMap_cons, List.length_append, List.length_cons, List.length_nil] at ih ⊢; omega
theorem rkE_le (ss : List Spn) (tm : Ev → Int) (x : Ev) : rkE ss tm x ≤ 2 * ss.length := by
  rw [← evsL_len]; exact List.countP_le_length
theorem rkE_mono (ss : List Spn) {tm : Ev → Int} {x y : Ev} (h : tm x ≤ tm y) : rkE ss tm x ≤ rkE ss tm y :=
  List.countP_mono_left fun z _ hz => by simp only [decide_eq_true_eq] at hz ⊢; omega
theorem rkE_lt {ss : List Spn} {tm : Ev → Int} {x y : Ev} (hx : x ∈ evsL ss) (h : tm x < tm y) : rkE ss tm x < rkE ss tm y := by
  have key : ∀ l : List Ev, x ∈ l → l.countP (fun z => decide (tm z < tm x)) < l.countP (fun z => decide (tm z < tm y)) := by
    intro l
    induction l with
    | nil => intro h; simp at h
    | cons z l ih =>
      intro hm
      have hmono : l.countP (fun z => decide (tm z < tm x)) ≤ l.countP (fun z => decide (tm z < tm y)) := List.countP_mono_left fun z _ hz => by simp only [decide_eq_true_eq] at hz ⊢; omega
      rw [List.countP_cons, List.countP_cons]
      rcases List.mem_cons.1 hm with rfl | hm
      · have e1 : decide (tm x < tm x) = false := by simp
        have e2 : decide (tm x < tm y) = true := by simp [h]
        rw [e1, e2]; simp; omega
      · have := ih hm
        by_cases e : tm z < tm x
        · have e1 : decide (tm z < tm x) = true := by simp [e]
          have e2 : decide (tm z < tm y) = true := by simp; omega
          rw [e1, e2]; simp; omega
        · have e1 : decide (tm z < tm x) = false := by simp; omega
          rw [e1]; simp; split <;> omega
  exact key _ hx
theorem askB_lt {tm : Ev → Int} {bf : Ev → Ev → Bool} (hbf : ∀ x y, bf x y = decide (tm x < tm y)) {x y : Ev} (h : askB bf x y = true) : tm x < tm y := by
  unfold askB at h
  simp only [Bool.and_eq_true, hbf, decide_eq_true_eq] at h
  exact h.2
theorem askB_self (bf : Ev → Ev → Bool) (x : Ev) : askB bf x x = false := by simp [askB]
theorem wkF_ex {ss : List Spn} (hn : (idsOf ss).Nodup) {tm : Ev → Int} {bf : Ev → Ev → Bool} (hbf : ∀ x y, bf x y = decide (tm x < tm y)) {kid : Int → List Spn} (hk : ∀ k, ∀ z ∈ kid k, z ∈ ss ∧ z.pa = k ∧ z.pa ≠ 0) :
    ∀ (n : Nat) (s : Spn) (lo cur : Ev) (d : Nat), s.id ∈ lev ss d → ss.length - d + rkE ss tm cur ≤ n → ∃ q, wkF bf kid (n + 1) s lo cur = some q := by
  intro n
  induction n with
  | zero =>
    intro s lo cur d hd hb
    have := dep_lt hn (List.ne_nil_of_mem hd)
    omega
  | succ n ih =>
    intro s lo cur d hd hb
    rw [wkF]
    by_cases hA : askB bf lo cur = true
    · rw [if_pos hA]
      cases hC : chooseF bf (kid s.id) lo cur with
      | none => exact ⟨_, rfl⟩
      | some y =>
        obtain ⟨c, v⟩ := y
        obtain ⟨h1, h2, h3⟩ := chooseF_is hC
        simp only at h1 h2 h3 ⊢
        obtain ⟨k1, k2, k3⟩ := hk _ c h1
        have hcd : c.id ∈ lev ss (d + 1) := by
          rw [lev, List.mem_flatMap]
          exact ⟨s.id, hd, mem_kids.2 ⟨c, k1, rfl, k2, k3⟩⟩
        have hdl := dep_lt hn (List.ne_nil_of_mem hcd)
        have hv : rkE ss tm v ≤ rkE ss tm cur := by
          rcases h3 with rfl | h3
          · exact Nat.le_refl _
          · exact rkE_mono ss (Int.le_of_lt (askB_lt hbf h3))
        obtain ⟨q1, hq1⟩ := ih c (if askB bf lo (evOf c false) then evOf c false else lo) v (d + 1) hcd (by omega)
        obtain ⟨q2, hq2⟩ : ∃ q2, wkF bf kid (n + 1) s lo (if askB bf lo (evOf c false) then evOf c false else lo) = some q2 := by
          by_cases hB : askB bf lo (evOf c false) = true
          · rw [if_pos hB]
            have hm : evOf c false ∈ evsL ss := by
              unfold evsL
              rw [List.mem_flatMap]
              exact ⟨c, k1, by simp⟩
            have := rkE_lt (tm := tm) hm (askB_lt hbf h2)
            exact ih s lo _ d hd (by omega)
          · rw [if_neg hB, wkF]
            simp [askB_self]
        rw [hq1, hq2]
        exact ⟨_, rfl⟩
    · rw [if_neg hA]
      exact ⟨_, rfl⟩
end Go.Proofs.YthlimkmjobpjoaaGreat
namespace Go.Proofs.YthlimkmjobpjoaaGreat
open Go.RowKit Go.Exe
/-! ### the keys of a map of numbers, sorted -/
attribute [local irreducible] W AX Run RunD AStep AOp AOpX AStB AStH AStG Fits PCall GCall PostG Post Stop
theorem keysO1_it (m : List Of) (ks : List Int) (hks : ks = m.map (·.1)) : ItC Tryz.prog 92 [.c (.im (.pt [.mp 3 (ofEA m)]))] (fun k => ft (.int .i64 k)) (fun ys => ys.Perm ks) ks.length := by
  intro l J hJ hY
  refine GCall.introG (nt := 14) (rs := []) Tryz.func92 rfl ⟨by kernel_rfl, by kernel_rfl, by kernel_rfl⟩ (by simp) ?_
  rintro ⟨P, w0, ok0, may, np, pblk⟩ rfl rfl
  simp only [go_sem]
  repeat' (first | refine W.seq fun K hK => ?_ | refine W.block ?_ | ((first | refine wR ?_ | refine wD ?_ | refine W.skip ?_ | refine W.exit ?_ | refine W.ret (Post.ret ?_) | refine aP ?_ | refine aF ?_ | refine aY (k0 := 0) ?_ | refine aL ?_ | refine aU ?_ | refine aM ?_ | refine aN ?_ | refine aR ?_ | refine aK ?_ | refine aZ ?_); simp only [go_sem, reduceCtorEq]) | refine wT ?_ | refine wF ?_ | refine wC (fun h => ?_) (fun h => ?_) | refine iK ?_ | refine aI2 ?_ | (refine hK _ ?_; clear hK K) | clear hK K)
  have hlen : (ofEA m).length = ks.length := by simp [ofEA, hks]
  refine W.loopF (T := fun seen : List Nat => { t := [(0, ft (.func (.yield l) #[] #[])), (5, .c (.ptr 1 0))], h := [(0, .raw (J (selK ks seen))), (1, .itf 3 (ofEA m) seen)], nx := 2, ex := [], nt := 14 })
    (Inv := fun seen => seen.Nodup ∧ ∀ j ∈ seen, j < ks.length) (μ := fun seen => ks.length - seen.length) (x0 := []) (Fits.fit [(0, 0), (2, 1)] [0, 5] 2 rfl rfl ?_) ⟨List.nodup_nil, by simp⟩ ?_
  · simp only [go_sem, selK, List.map_nil]
    exact Fits.rfl
  rintro seen ⟨hnd, hbd⟩ KL hKL
  repeat' (first | refine W.stop (id := 1) ?_ | refine W.seq fun K hK => ?_ | refine W.block ?_ | ((first | refine wR ?_ | refine wD ?_ | refine W.skip ?_ | refine W.exit ?_ | refine W.ret (Post.ret ?_) | refine aP ?_ | refine aF ?_ | refine aY (k0 := 0) ?_ | refine aL ?_ | refine aU ?_ | refine aM ?_ | refine aN ?_ | refine aR ?_ | refine aK ?_ | refine aZ ?_); simp only [go_sem, reduceCtorEq]) | refine wT ?_ | refine wF ?_ | refine wC (fun h => ?_) (fun h => ?_) | refine iK ?_ | refine aI2 ?_ | (refine hK _ ?_; clear hK K) | clear hK K)
  refine Stop.out ?_
  refine W.nextReg rfl rfl rfl rfl rfl rfl rfl rfl rfl rfl (fun j e he hj => ?_) (fun hall => ?_)
  · simp only [ofEA, List.getElem?_map, Option.map_eq_some_iff] at he
    obtain ⟨⟨k, n⟩, hkn, rfl⟩ := he
    have hk : ks[j]? = some k := by rw [hks, List.getElem?_map, hkn]; rfl
    have hjl := (List.getElem?_eq_some_iff.1 hk).1
    have hn2 : (seen ++ [j]).Nodup := List.nodup_append.2 ⟨hnd, by simp, fun x hx y hy => by simp at hy; subst hy; exact fun e => hj (e ▸ hx)⟩
    have hb2 : ∀ i ∈ seen ++ [j], i < ks.length := fun i hi => by
      rcases List.mem_append.1 hi with h | h
      · exact hbd i h
      · simp at h; omega
    have hsl := seen_le hn2 hb2
    have hsa : (seen ++ [j]).length = seen.length + 1 := by simp
    have hed : (ofEA m)[j]? = some (.int .i64 k, false, [.flat (.int .i64 n)]) := by simp [ofEA, hkn]
    have hs2 : selK ks seen ++ [k] = selK ks (seen ++ [j]) := by simp [selK, List.getD_eq_getElem?_getD, hk]
    have hy := hY (selK ks seen) k (by simp [selK]; omega)
    rw [hs2] at hy
    simp only [go_sem]
    repeat' (first | refine W.seq fun K hK => ?_ | refine W.block ?_ | ((first | refine wR ?_ | refine wD ?_ | refine W.skip ?_ | refine W.exit ?_ | refine W.ret (Post.ret ?_) | refine aP ?_ | refine aF ?_ | refine aY (k0 := 0) ?_ | refine aL ?_ | refine aU ?_ | refine aM ?_ | refine aN ?_ | refine aR ?_ | refine aK ?_ | refine aZ ?_); simp only [go_sem, reduceCtorEq]) | refine wT ?_ | refine wF ?_ | refine wC (fun h => ?_) (fun h => ?_) | refine iK ?_ | refine aI2 ?_ | (refine hK _ ?_; clear hK K) | clear hK K)
    refine AX.entry rfl rfl rfl (j := j) (by simp) hed rfl rfl ?_
    simp only [go_sem, imL]
    repeat' (first | refine W.seq fun K hK => ?_ | refine W.block ?_ | ((first | refine wR ?_ | refine wD ?_ | refine W.skip ?_ | refine W.exit ?_ | refine W.ret (Post.ret ?_) | refine aP ?_ | refine aF ?_ | refine aY (k0 := 0) ?_ | refine aL ?_ | refine aU ?_ | refine aM ?_ | refine aN ?_ | refine aR ?_ | refine aK ?_ | refine aZ ?_); simp only [go_sem, reduceCtorEq]) | refine wT ?_ | refine wF ?_ | refine wC (fun h => ?_) (fun h => ?_) | refine iK ?_ | refine aI2 ?_ | (refine hK _ ?_; clear hK K) | clear hK K)
    refine hKL.to (seen ++ [j]) ⟨hn2, hb2⟩ (by omega) (Fits.fit [(0, 0), (1, 1)] [0, 5] 2 rfl rfl ?_)
    simp only [go_sem]
    exact Fits.rfl
  · simp only [go_sem]
    clear hKL
    have hall : ∀ j, j < ks.length → j ∈ seen := fun j hj => hall j (by rw [hlen]; exact hj)
    have hp := selK_perm hnd hbd hall
    repeat' (first | refine W.seq fun K hK => ?_ | refine W.block ?_ | ((first | refine wR ?_ | refine wD ?_ | refine W.skip ?_ | refine W.exit ?_ | refine W.ret (Post.ret ?_) | refine aP ?_ | refine aF ?_ | refine aY (k0 := 0) ?_ | refine aL ?_ | refine aU ?_ | refine aM ?_ | refine aN ?_ | refine aR ?_ | refine aK ?_ | refine aZ ?_); simp only [go_sem, reduceCtorEq]) | refine wT ?_ | refine wF ?_ | refine wC (fun h => ?_) (fun h => ?_) | refine iK ?_ | refine aI2 ?_ | (refine hK _ ?_; clear hK K) | clear hK K)
    refine PostG.normal (Fits.weak 0 (o1 := .raw fun ok B w => ∃ ys, ys.Perm ks ∧ J ys ok B w) rfl rfl (fun ok w L h => ?_) (Fits.fit [(0, 0)] [] 1 rfl rfl Fits.rfl)) rfl rfl ?_
    · obtain ⟨h1, h2, _⟩ := h
      exact ⟨h1, ⟨_, hp, h2⟩, fun ok ok' B w w' ⟨ys, e, hj⟩ k1 k2 => ⟨ys, e, hJ _ ok ok' B w w' hj k1 k2⟩⟩
    · simp only [St.r, go_sem]
theorem keysO_c (m : List Of) : PCall Tryz.prog 53 [.c (.im (.mp 3 (ofEA m)))] (.c (.im (.fn 92 [.pt [.mp 3 (ofEA m)]]))) := by
  refine PCall.intro (nt := 4) (rs := [.tmp 2]) Tryz.func53 rfl ⟨by kernel_rfl, by kernel_rfl, by kernel_rfl⟩ (by simp) ?_
  rintro ⟨P, w0, ok0, may, np, pblk⟩ rfl rfl
  repeat' (first | refine W.seq fun K hK => ?_ | refine W.block ?_ | ((first | refine wR ?_ | refine wD ?_ | refine W.skip ?_ | refine W.exit ?_ | refine W.ret (Post.ret ?_) | refine aP ?_ | refine aF ?_ | refine aY (k0 := 0) ?_ | refine aL ?_ | refine aU ?_ | refine aM ?_ | refine aN ?_ | refine aR ?_ | refine aK ?_ | refine aZ ?_); simp only [go_sem, reduceCtorEq]) | refine wT ?_ | refine wF ?_ | refine wC (fun h => ?_) (fun h => ?_) | refine iK ?_ | refine aI2 ?_ | (refine hK _ ?_; clear hK K) | clear hK K)
theorem sortedO_c (c60 : SortI Tryz.prog 56) (m : List Of) (ks : List Int) (hks : ks = m.map (·.1)) (hlen : ks.length * 8 ≤ 140737488355328) :
    GCall Tryz.prog 52 0 (St.g [.c (.im (.fn 92 [.pt [.mp 3 (ofEA m)]]))] [] 0) (St.r (.c (.ref 0)) [(0, .row 3 (imR ((srtI ks).map iA)))] 1) := by
  have hc := collectI_c 92 [.pt [.mp 3 (ofEA m)]] _ _ (keysO1_it m ks hks) hlen
  refine GCall.introG (nt := 9) (rs := [.tmp 2]) Tryz.func52 rfl ⟨by kernel_rfl, by kernel_rfl, by kernel_rfl⟩ (by simp) ?_
  rintro ⟨P, w0, ok0, may, np, pblk⟩ rfl rfl
  simp only [go_sem]
  repeat' (first | refine W.stop (id := 1) ?_ | refine W.seq fun K hK => ?_ | refine W.block ?_ | ((first | refine wR ?_ | refine wD ?_ | refine W.skip ?_ | refine W.exit ?_ | refine W.ret (Post.ret ?_) | refine aP ?_ | refine aF ?_ | refine aY (k0 := 0) ?_ | refine aL ?_ | refine aU ?_ | refine aM ?_ | refine aN ?_ | refine aR ?_ | refine aK ?_ | refine aZ ?_); simp only [go_sem, reduceCtorEq]) | refine wT ?_ | refine wF ?_ | refine wC (fun h => ?_) (fun h => ?_) | refine iK ?_ | refine aI2 ?_ | (refine hK _ ?_; clear hK K) | clear hK K)
  refine Stop.out ?_
  refine W.regE ?_
  refine ⟨rfl, OpE.ofAOp 9 (by simp [St.used]) ?_⟩
  simp only [go_sem]
  refine ⟨rfl, OpE.gcall 9 [] rfl rfl hc rfl rfl rfl rfl rfl rfl (fun _ _ => rfl) rfl rfl (by simp [St.used]) fun ys hys => ?_⟩
  simp only [go_sem]
  refine ⟨rfl, OpE.ofAOp 10 (by simp [St.used]) ?_⟩
  simp only [go_sem]
  refine ⟨_, Fits.fit [(9, 0)] [3] 1 rfl rfl Fits.rfl, ?_⟩
  simp only [go_sem]
  repeat' (first | refine W.seq fun K hK => ?_ | refine W.block ?_ | ((first | refine wR ?_ | refine wD ?_ | refine W.skip ?_ | refine W.exit ?_ | refine W.ret (Post.ret ?_) | refine aP ?_ | refine aF ?_ | refine aY (k0 := 0) ?_ | refine aL ?_ | refine aU ?_ | refine aM ?_ | refine aN ?_ | refine aR ?_ | refine aK ?_ | refine aZ ?_); simp only [go_sem, reduceCtorEq]) | refine wT ?_ | refine wF ?_ | refine wC (fun h => ?_) (fun h => ?_) | refine iK ?_ | refine aI2 ?_ | (refine hK _ ?_; clear hK K) | clear hK K)
  refine AX.sortI (zs := ys) rfl rfl rfl rfl rfl tE3 (by decide) c60 rfl ?_
  rw [srtI_uni hys]
  simp only [go_sem]
  repeat' (first | refine W.seq fun K hK => ?_ | refine W.block ?_ | ((first | refine wR ?_ | refine wD ?_ | refine W.skip ?_ | refine W.exit ?_ | refine W.ret (Post.ret ?_) | refine aP ?_ | refine aF ?_ | refine aY (k0 := 0) ?_ | refine aL ?_ | refine aU ?_ | refine aM ?_ | refine aN ?_ | refine aR ?_ | refine aK ?_ | refine aZ ?_); simp only [go_sem, reduceCtorEq]) | refine wT ?_ | refine wF ?_ | refine wC (fun h => ?_) (fun h => ?_) | refine iK ?_ | refine aI2 ?_ | (refine hK _ ?_; clear hK K) | clear hK K)
  refine W.ret (PostG.ret (Fits.fit [(0, 0)] [2] 1 rfl rfl Fits.rfl) rfl rfl ?_)
  simp only [St.r, go_sem]
  rfl
end Go.Proofs.YthlimkmjobpjoaaGreat
namespace Go.Proofs.YthlimkmjobpjoaaGreat
open Go.RowKit Go.Exe
/-! ### Exclusive -/
def exN (p : List Sg) (L : List Int) (n : Nat) : List Of := ((p.zip L).take n).foldl (fun m x => putO m (x.1.sp.2, IntKind.i64.wrap ((getO m x.1.sp.2).getD 0 + x.2))) []
def exF (p : List Sg) (L : List Int) : List Of := (srtI ((exN p L p.length).map (·.1))).map fun k => (k, (getO (exN p L p.length) k).getD 0)
abbrev exT (e : Int) (q : List Of) : TV := .t [(false, [.im (.sl 96 (q.map ofA))]), (false, [fl (.int .i64 e)])]
theorem exN_step {p : List Sg} {L : List Int} {i : Nat} {x : Sg} {n : Int} (h : p[i]? = some x) (h2 : L[i]? = some n) : exN p L (i + 1) = putO (exN p L i) (x.sp.2, IntKind.i64.wrap ((getO (exN p L i) x.sp.2).getD 0 + n)) := by
  have : (p.zip L)[i]? = some (x, n) := by rw [List.getElem?_zip_eq_some]; exact ⟨h, h2⟩
  simp [exN, List.take_add_one, this]
theorem putO_len (m : List Of) (x : Of) : (putO m x).length ≤ m.length + 1 := by
  induction m with
  | nil => simp [putO]
  | cons y r ih => simp only [putO]; split <;> simp <;> omega
theorem exN_len (p : List Sg) (L : List Int) (n : Nat) : (exN p L n).length ≤ n := by
  have key : ∀ (l : List (Sg × Int)) (m : List Of), (l.foldl (fun m x => putO m (x.1.sp.2, IntKind.i64.wrap ((getO m x.1.sp.2).getD 0 + x.2))) m).length ≤ m.length + l.length := by
    intro l
    induction l with
    | nil => simp
    | cons x l ih =>
      intro m
      have h1 := ih (putO m (x.1.sp.2, IntKind.i64.wrap ((getO m x.1.sp.2).getD 0 + x.2)))
      have h2 := putO_len m (x.1.sp.2, IntKind.i64.wrap ((getO m x.1.sp.2).getD 0 + x.2))
      simp only [List.foldl_cons, List.length_cons]; omega
  have h1 := key ((p.zip L).take n) []
  have h2 := List.length_take_le n (p.zip L)
  simp only [List.length_nil] at h1
  unfold exN; omega
theorem putO_key {m : List Of} {x y : Of} (h : y ∈ putO m x) : y = x ∨ y ∈ m := by
  induction m with
  | nil => simp [putO] at h; exact .inl h
  | cons z r ih =>
    simp only [putO] at h
    split at h
    · rcases List.mem_cons.1 h with rfl | h
      · exact .inl rfl
      · exact .inr (by simp [h])
    · rcases List.mem_cons.1 h with rfl | h
      · exact .inr (by simp)
      · rcases ih h with h | h
        · exact .inl h
        · exact .inr (by simp [h])
theorem exN_keys {p : List Sg} {L : List Int} (hp : ∀ x ∈ p, I64 x.sp.2) (n : Nat) : ∀ y ∈ exN p L n, I64 y.1 := by
  have key : ∀ (l : List (Sg × Int)) (m : List Of), (∀ x ∈ l, I64 x.1.sp.2) → (∀ y ∈ m, I64 y.1) → ∀ y ∈ l.foldl (fun m x => putO m (x.1.sp.2, IntKind.i64.wrap ((getO m x.1.sp.2).getD 0 + x.2))) m, I64 y.1 := by
    intro l
    induction l with
    | nil => exact fun m _ h => h
    | cons x l ih =>
      intro m hl hm
      refine ih _ (fun z hz => hl z (by simp [hz])) fun y hy => ?_
      rcases putO_key hy with rfl | hy
      · exact hl x (by simp)
      · exact hm y hy
  refine key _ [] (fun x hx => hp _ ?_) (by simp)
  exact (List.of_mem_zip (List.mem_of_mem_take hx)).1
theorem snocO (l : List Of) (x : Of) : imR ((l ++ [x]).map ofA) = imR (l.map ofA) ++ [(ofA x).map .im] := by simp [imR, imL]
attribute [local irreducible] W AX Run RunD AStep AOp AOpX AStB AStH AStG Fits PCall GCall PostG Post Stop
theorem excl_c (c71 : SortI Tryz.prog 56) (l : List Spn) (v : List Of) (root : Int) (p : List Sg) (L : List Int) (hL : L.length = p.length) (hp : ∀ x ∈ p, I64 x.sp.2)
    (c13 : PCall Tryz.prog 50 [spsT l, ofsT v, ft (.int .i64 root)] (.t [(false, [.im (.sl 118 (p.map sgA))]), (false, [fl (.int .i64 0)])]))
    (c24 : PCall Tryz.prog 51 [spsT l, ofsT v, sgsT p] (.t [(false, [.im (.sl 3 (L.map iA))]), (false, [fl (.int .i64 0)])])) :
    PCall Tryz.prog 19 [spsT l, ofsT v, ft (.int .i64 root)] (exT 0 (exF p L)) := by
  refine PCall.intro (nt := 74) (rs := [.tmp 6, .tmp 7]) Tryz.func19 rfl ⟨by kernel_rfl, by kernel_rfl, by kernel_rfl⟩ (by simp) ?_
  rintro ⟨P, w0, ok0, may, np, pblk⟩ rfl rfl
  repeat' (first | refine W.stop (id := 8) ?_ | refine W.seq fun K hK => ?_ | refine W.block ?_ | ((first | refine wR ?_ | refine wD ?_ | refine W.skip ?_ | refine W.exit ?_ | refine W.ret (Post.ret ?_) | refine aP ?_ | refine aF ?_ | refine aL ?_ | refine aU ?_ | refine aM ?_ | refine aN ?_ | refine aR ?_); simp only [go_sem, reduceCtorEq]) | refine wT ?_ | refine wF ?_ | refine wC (fun h => ?_) (fun h => ?_) | refine iK ?_ | refine aI2 ?_ | (refine hK _ ?_; clear hK K) | clear hK K)
  refine Stop.out ?_
  refine W.lenB 8 rfl tE118 fun hl0 hl1 => ?_
  rw [List.length_map] at hl1
  repeat' (first | refine W.seq fun K hK => ?_ | refine W.block ?_ | ((first | refine wR ?_ | refine wD ?_ | refine W.skip ?_ | refine W.exit ?_ | refine W.ret (Post.ret ?_) | refine aP ?_ | refine aF ?_ | refine aL ?_ | refine aU (hnn := by simp only [go_sem, reduceCtorEq, List.length_map]) ?_ | refine aM ?_ | refine aN ?_ | refine aR ?_); simp only [go_sem, reduceCtorEq, List.length_map]) | refine wT ?_ | refine wF ?_ | refine wC (fun h => ?_) (fun h => ?_) | refine iK ?_ | refine aI2 ?_ | (refine hK _ ?_; clear hK K) | clear hK K)
  clear c13 c24
  refine W.loopF (T := fun i : Nat => { t := [(10, intsT L), (11, .c (.mp 0)), (38, sgsT p), (39, ft (.int .i64 p.length)), (40, ft (.int .i64 (i : Nat)))], h := [(0, .map 3 (ofE (exN p L i)))], nx := 1, ex := [], nt := 74 })
    (Inv := fun i => i ≤ p.length) (μ := fun i => p.length - i) (x0 := 0) ?_ (Nat.zero_le _) ?_
  · refine Fits.fit [(24, 0)] [10, 11, 38, 39, 40] 1 rfl rfl ?_
    simp only [go_sem, exN, List.take_zero, List.foldl_nil, ofE, List.map_nil]
    exact Fits.rfl
  rintro i hi KL hKL
  by_cases hlt : i < p.length
  · obtain ⟨x, hx, hm, hd⟩ := drop_at hlt
    obtain ⟨n, hn, _, _⟩ := drop_at (show i < L.length by omega)
    have e1 : decide ((i : Int) < p.length) = true := by simp; omega
    have e2 : decide (i < p.length) = true := by simp; omega
    have hw := w64s i (by omega)
    have hko := koI (hp x hm)
    have hst := exN_step hx hn
    obtain ⟨m1, hm1⟩ : ∃ m, m = exN p L (i + 1) := ⟨_, rfl⟩
    rw [← hm1] at hst
    generalize exN p L i = m at *
    have hput := ofE_put m x.sp.2 (IntKind.i64.wrap ((getO m x.sp.2).getD 0 + n))
    rw [← hst] at hput
    have hg := ofE_mget x.sp.2 m
    cases hgo : getO m x.sp.2 with
    | none =>
      rw [hgo] at hg hput
      simp only [Option.map_none, Option.getD_none] at hg hput
      repeat' (first | refine W.seq fun K hK => ?_ | refine W.block ?_ | ((first | refine wR ?_ | refine wD ?_ | refine W.skip ?_ | refine W.exit ?_ | refine W.ret (Post.ret ?_) | refine aP ?_ | refine aF ?_ | refine aL ?_ | refine aU (hnn := by simp only [go_sem, reduceCtorEq, List.getElem?_map, hx, hn, sgA, iA, e1, e2, hw, hg, hput, hL, List.length_map]) ?_ | refine aM ?_ | refine aN ?_ | refine aR ?_); simp only [go_sem, reduceCtorEq, List.getElem?_map, hx, hn, sgA, iA, e1, e2, hw, hg, hput, hL, List.length_map]) | refine wT ?_ | refine wF ?_ | refine wC (fun h => ?_) (fun h => ?_) | refine iK ?_ | refine aI2 ?_ | (refine hK _ ?_; clear hK K) | clear hK K)
      refine hKL.to (i + 1) (by omega) (by omega) (Fits.fit [(0, 0)] [10, 11, 38, 39, 40] 1 rfl rfl ?_)
      simp only [go_sem, rnEs_ofE, hm1]
      exact Fits.rfl
    | some k =>
      rw [hgo] at hg hput
      simp only [Option.map_some, Option.getD_some] at hg hput
      repeat' (first | refine W.seq fun K hK => ?_ | refine W.block ?_ | ((first | refine wR ?_ | refine wD ?_ | refine W.skip ?_ | refine W.exit ?_ | refine W.ret (Post.ret ?_) | refine aP ?_ | refine aF ?_ | refine aL ?_ | refine aU (hnn := by simp only [go_sem, reduceCtorEq, List.getElem?_map, hx, hn, sgA, iA, e1, e2, hw, hg, hput, hL, List.length_map]) ?_ | refine aM ?_ | refine aN ?_ | refine aR ?_); simp only [go_sem, reduceCtorEq, List.getElem?_map, hx, hn, sgA, iA, e1, e2, hw, hg, hput, hL, List.length_map]) | refine wT ?_ | refine wF ?_ | refine wC (fun h => ?_) (fun h => ?_) | refine iK ?_ | refine aI2 ?_ | (refine hK _ ?_; clear hK K) | clear hK K)
      refine hKL.to (i + 1) (by omega) (by omega) (Fits.fit [(0, 0)] [10, 11, 38, 39, 40] 1 rfl rfl ?_)
      simp only [go_sem, rnEs_ofE, hm1]
      exact Fits.rfl
  · obtain rfl : i = p.length := by omega
    have e1 : decide ((p.length : Int) < p.length) = false := by simp
    have hml := exN_len p L p.length
    clear hKL
    obtain ⟨m, hm⟩ : ∃ m, m = exN p L p.length := ⟨_, rfl⟩
    rw [← hm] at hml
    have ck := keysO_c m
    have hkl : (m.map (·.1)).length = m.length := by simp
    have cs := sortedO_c c71 m (m.map (·.1)) rfl (by rw [hkl]; omega)
    have hsp : (srtI (m.map (·.1))).Perm (m.map (·.1)) := List.mergeSort_perm _ _
    have hsl : (srtI (m.map (·.1))).length = m.length := by rw [hsp.length_eq, hkl]
    rw [← hm]
    obtain ⟨ks, hks⟩ : ∃ ks, ks = srtI (m.map (·.1)) := ⟨_, rfl⟩
    rw [← hks] at hsl cs hsp
    have hkI : ∀ k ∈ ks, I64 k := fun k hk => by
      obtain ⟨y, hy, rfl⟩ := List.mem_map.1 (hsp.mem_iff.1 hk)
      exact exN_keys (L := L) hp p.length y (hm ▸ hy)
    repeat' (first | refine W.stop (id := 13) ?_ | refine W.seq fun K hK => ?_ | refine W.block ?_ | ((first | refine wR ?_ | refine wD ?_ | refine W.skip ?_ | refine W.exit ?_ | refine W.ret (Post.ret ?_) | refine aP ?_ | refine aF ?_ | refine aL ?_ | refine aU (hnn := by simp only [go_sem, reduceCtorEq, e1]) ?_ | refine aM ?_ | refine aN ?_ | refine aR ?_); simp only [go_sem, reduceCtorEq, e1]) | refine wT ?_ | refine wF ?_ | refine wC (fun h => ?_) (fun h => ?_) | refine iK ?_ | refine aI2 ?_ | (refine hK _ ?_; clear hK K) | clear hK K)
    refine Stop.out ?_
    refine W.fits (Fits.freezeM 0 rfl (ofE_close _) (Fits.seeT 11 0 rfl (.inr rfl) rfl Fits.rfl)) ?_
    simp only [go_sem]
    repeat' (first | refine W.seq fun K hK => ?_ | refine W.block ?_ | ((first | refine wR ?_ | refine wD ?_ | refine W.skip ?_ | refine W.exit ?_ | refine W.ret (Post.ret ?_) | refine aP ?_ | refine aF ?_ | refine aL ?_ | refine aU ?_ | refine aM ?_ | refine aN ?_ | refine aR ?_); simp only [go_sem, reduceCtorEq]) | refine wT ?_ | refine wF ?_ | refine wC (fun h => ?_) (fun h => ?_) | refine iK ?_ | refine aI2 ?_ | (refine hK _ ?_; clear hK K) | clear hK K)
    refine AX.gcall [] rfl rfl (cs) (by simp only [go_sem, reduceCtorEq, List.length_map]) (by simp only [go_sem, reduceCtorEq, List.length_map]) rfl rfl (by simp only [go_sem, Obj.owns]) rfl (by simp only [go_sem, Obj.owns]) rfl rfl ?_
    simp only [go_sem, reduceCtorEq, List.length_map]
    repeat' (first | refine W.seq fun K hK => ?_ | refine W.block ?_ | ((first | refine wR ?_ | refine wD ?_ | refine W.skip ?_ | refine W.exit ?_ | refine W.ret (Post.ret ?_) | refine aP ?_ | refine aF ?_ | refine aL ?_ | refine aU (hnn := by simp only [go_sem, reduceCtorEq, imR_len, List.length_map]) ?_ | refine aM ?_ | refine aN ?_ | refine aR ?_); simp only [go_sem, reduceCtorEq, imR_len, List.length_map]) | refine wT ?_ | refine wF ?_ | refine wC (fun h => ?_) (fun h => ?_) | refine iK ?_ | refine aI2 ?_ | (refine hK _ ?_; clear hK K) | clear hK K)
    clear cs ck hsp
    rw [← hsl] at hml
    clear hsl
    refine W.loopF (T := fun i : Nat => { t := [(11, .c (.im (.mp 3 (ofEA m)))), (14, .c (.ref 1)), (58, .c (.ref 0)), (59, ft (.int .i64 ks.length)), (60, ft (.int .i64 (i : Nat)))], h := [(0, .row 3 (imR (ks.map iA))), (1, .row 96 (imR (((ks.take i).map fun k => (k, (getO m k).getD 0)).map ofA)))], nx := 2, ex := [], nt := 74 })
      (Inv := fun i => i ≤ ks.length) (μ := fun i => ks.length - i) (x0 := 0) ?_ (Nat.zero_le _) ?_
    · refine Fits.adopt 14 99 96 rfl rfl rfl tE96 rfl ?_
      refine Fits.fit [(5, 0), (99, 1)] [11, 14, 58, 59, 60] 2 rfl rfl ?_
      simp only [go_sem, List.take_zero, List.map_nil, imR_nil]
      exact Fits.rfl
    rintro i hi KI hKI
    by_cases hlt : i < ks.length
    · obtain ⟨k, hx, hm2, hd⟩ := drop_at hlt
      have e1 : decide ((i : Int) < ks.length) = true := by simp; omega
      have e2 : decide (i < ks.length) = true := by simp; omega
      have hw := w64s i (by omega)
      have hko := koI (hkI k hm2)
      have hg := ofE_mget k m
      rw [← froE_of] at hg
      have htk : (ks.take (i + 1)).map (fun k => (k, (getO m k).getD 0)) = (ks.take i).map (fun k => (k, (getO m k).getD 0)) ++ [(k, (getO m k).getD 0)] := by
        rw [List.take_add_one, hx]; simp
      have hkx : (imR (ks.map iA))[i]? = some [.im (.flat (.int .i64 k))] := by simp [imR, imL, iA, hx]
      have hlt2 : (ks.take i).length ≤ i := List.length_take_le i ks
      cases hgo : getO m k with
      | none =>
        rw [hgo] at hg htk
        simp only [Option.map_none, Option.getD_none] at hg htk
        repeat' (first | refine W.seq fun K hK => ?_ | refine W.block ?_ | ((first | refine wR ?_ | refine wD ?_ | refine W.skip ?_ | refine W.exit ?_ | refine W.ret (Post.ret ?_) | refine aP ?_ | refine aF ?_ | refine aL ?_ | refine aU (hnn := by simp only [go_sem, reduceCtorEq, hkx, e1, e2, hw, hg, imR_len, List.length_map]) ?_ | refine aM ?_ | refine aN ?_ | refine aR ?_); simp only [go_sem, reduceCtorEq, hkx, e1, e2, hw, hg, imR_len, List.length_map]) | refine wT ?_ | refine wF ?_ | refine wC (fun h => ?_) (fun h => ?_) | refine iK ?_ | refine aI2 ?_ | (refine hK _ ?_; clear hK K) | clear hK K)
        refine hKI.to (i + 1) (by omega) (by omega) (Fits.fit [(0, 0), (13, 1)] [11, 14, 58, 59, 60] 2 rfl rfl ?_)
        simp only [go_sem, htk, snocO, ofA, List.map]
        exact Fits.rfl
      | some n =>
        rw [hgo] at hg htk
        simp only [Option.map_some, Option.getD_some] at hg htk
        repeat' (first | refine W.seq fun K hK => ?_ | refine W.block ?_ | ((first | refine wR ?_ | refine wD ?_ | refine W.skip ?_ | refine W.exit ?_ | refine W.ret (Post.ret ?_) | refine aP ?_ | refine aF ?_ | refine aL ?_ | refine aU (hnn := by simp only [go_sem, reduceCtorEq, hkx, e1, e2, hw, hg, imR_len, List.length_map]) ?_ | refine aM ?_ | refine aN ?_ | refine aR ?_); simp only [go_sem, reduceCtorEq, hkx, e1, e2, hw, hg, imR_len, List.length_map]) | refine wT ?_ | refine wF ?_ | refine wC (fun h => ?_) (fun h => ?_) | refine iK ?_ | refine aI2 ?_ | (refine hK _ ?_; clear hK K) | clear hK K)
        refine hKI.to (i + 1) (by omega) (by omega) (Fits.fit [(0, 0), (13, 1)] [11, 14, 58, 59, 60] 2 rfl rfl ?_)
        simp only [go_sem, htk, snocO, ofA, List.map]
        exact Fits.rfl
    · obtain rfl : i = ks.length := by omega
      have e1 : decide ((ks.length : Int) < ks.length) = false := by simp
      clear hKI
      repeat' (first | refine W.seq fun K hK => ?_ | refine W.block ?_ | ((first | refine wR ?_ | refine wD ?_ | refine W.skip ?_ | refine W.exit ?_ | refine W.ret (Post.ret ?_) | refine aP ?_ | refine aF ?_ | refine aL ?_ | refine aU (hnn := by simp only [go_sem, reduceCtorEq, e1, List.take_length, unim_im]) ?_ | refine aM ?_ | refine aN ?_ | refine aR ?_); simp only [go_sem, reduceCtorEq, e1, List.take_length, unim_im]) | refine wT ?_ | refine wF ?_ | refine wC (fun h => ?_) (fun h => ?_) | refine iK ?_ | refine aI2 ?_ | (refine hK _ ?_; clear hK K) | clear hK K)
      simp only [exF, ← hm, ← hks]
end Go.Proofs.YthlimkmjobpjoaaGreat
