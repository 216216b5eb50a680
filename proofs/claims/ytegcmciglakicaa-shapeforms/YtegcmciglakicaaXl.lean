/-
  Xl: the operations that are reckoned: sound.
-/
import Derived.Test.YtegcmciglakicaaXk
namespace Go.Exe
open Go.RowKit
set_option linter.unusedVariables false
set_option linter.unusedSimpArgs false

theorem ups_dU (s : St) (d : Option Nat) (v : TV) : s.ups (dU d v) = s.put d v := by cases d <;> rfl
theorem dstOk_spec {d : Option Nat} {n : Nat} (h : dstOk d n = true) : ∀ i, d = some i → i < n := by
  intro i e
  subst e
  exact Nat.le_of_ble_eq_true h
theorem given_dU {d : Option Nat} {v : TV} : ∀ u ∈ dU d v, ∀ j, u.given j → False := by
  intro u hu j hj
  cases d with
  | none => simp [dU] at hu
  | some d => simp [dU] at hu; subst hu; exact hj
section snd
variable {C : Ctx} {k : Nat} {o : Oper} {s : St} {F : List Key} {p : Prop} {U : List Upd}
theorem sound_val {v : TV} (h : OpOk C o s (s.put o.dst v)) : OpOk C o s (s.ups (dU o.dst v)) ∧ ∀ u ∈ dU o.dst v, ∀ j, u.given j → j = k := ⟨by rw [ups_dU]; exact h, fun u hu j hj => (given_dU u hu j hj).elim⟩
theorem sound_new {v : TV} {ob : Obj} (h : OpOk C o s ((s.new k ob).put o.dst v)) : OpOk C o s (s.ups (.new k ob :: dU o.dst v)) ∧ ∀ u ∈ Upd.new k ob :: dU o.dst v, ∀ j, u.given j → j = k := by
  refine ⟨?_, fun u hu j hj => ?_⟩
  · show OpOk C o s ((s.new k ob).ups (dU o.dst v))
    rw [ups_dU]; exact h
  · rcases List.mem_cons.1 hu with rfl | hu
    · exact hj.symm
    · exact (given_dU u hu j hj).elim
theorem bopI_or {op : BinOp} {kk : IntKind} {a b : Int} {q : Prop × Value} (h : bopI op kk a b = some q) : bopI op kk a b = some (q.1, q.2) := h
theorem sound_exec1 (h : exec1 C.P k o s = some (F, p, U)) (hp : p) (hk : ¬ s.used k) : OpOk C o s (s.ups U) ∧ ∀ u ∈ U, ∀ j, u.given j → j = k := by
  unfold exec1 at h
  split at h <;> try (cases h; done)
  rename_i hdst
  have hd := dstOk_spec hdst
  split at h <;> try (cases h; done)
  · rename_i y ho; cases h; exact sound_val (ok_move (.inl ho) hd)
  · rename_i y ho; cases h; exact sound_val (ok_move (.inr ho) hd)
  · rename_i t ho
    split at h <;> try (cases h; done)
    rename_i zs hz
    cases h
    exact sound_new (ok_alloc ho hz hk hd)
  · rename_i t y ho
    unfold xBox at h
    split at h <;> try (cases h; done)
    rename_i cs hcs
    split at h <;> try (cases h; done)
    rename_i hl
    cases h
    exact sound_new (ok_box ho hcs hl hk hd)
  · rename_i t ps ho
    unfold xBuild at h
    split at h <;> try (cases h; done)
    rename_i pl zs l h1 h2 h3
    split at h <;> try (cases h; done)
    rename_i cs h4
    cases h
    exact sound_val (ok_build ho h1 h2 h3 h4 hd)
  · rename_i t len ps ho
    unfold xLit at h
    split at h <;> try (cases h; done)
    rename_i e h1
    split at h <;> try (cases h; done)
    rename_i sz bs zs l h2 h3 h4
    split at h <;> try (cases h; done)
    rename_i h5
    cases h
    simp only [Bool.and_eq_true] at h5
    obtain ⟨⟨⟨⟨⟨a1, a3⟩, a4⟩, a5⟩, a6⟩, a7⟩ := h5
    exact sound_new (ok_buildSlice ho h1 h2 h3 (Nat.le_of_ble_eq_true a1) (Nat.le_of_ble_eq_true a3) (Nat.le_of_ble_eq_true a4) h4 a5 (beq_t a6) a7 hk hd)
  · rename_i t y ho
    unfold xLoad at h
    split at h <;> try (cases h; done)
    rename_i c h1
    split at h <;> try (cases h; done)
    rename_i g n h2
    split at h <;> try (cases h; done)
    rename_i h3
    split at h <;> try (cases h; done)
    rename_i cs h4
    cases h
    simp only [Bool.and_eq_true, Bool.or_eq_true] at h3
    exact sound_val (ok_load ho h1 h2 (Nat.le_of_ble_eq_true h3.1) (fun hg => h3.2.elim (fun h => by rw [hg] at h; cases h) beq_t) h4 hd)
  · rename_i t y z ho
    unfold xStore at h
    split at h <;> try (cases h; done)
    rename_i c ds h1 h2 h3
    split at h <;> try (cases h; done)
    rename_i g n h4
    split at h <;> try (cases h; done)
    rename_i h5
    split at h <;> try (cases h; done)
    rename_i k' o' h6
    cases h
    simp only [Bool.and_eq_true] at h5
    have hn := beq_t h5.1
    subst hn
    refine ⟨ok_store ho h1 h2 h3 h5.2 h4 h6, fun u hu j hj => ?_⟩
    simp at hu
    subst hu
    exact hj.elim
  · rename_i t y f ho
    unfold xField at h
    split at h <;> try (cases h; done)
    rename_i c n h1 h2
    split at h <;> try (cases h; done)
    rename_i d h3
    cases h
    exact sound_val (ok_fieldAddr ho h1 h2 h3 hd)
  · rename_i y ho
    unfold xNil at h
    split at h <;> try (cases h; done)
    rename_i c h1
    split at h <;> try (cases h; done)
    rename_i d h2
    cases h
    exact sound_val (ok_nilCheck ho h1 (by rw [h2]; rfl) hd)
  · rename_i y j ho
    unfold xExtract at h
    split at h <;> try (cases h; done)
    rename_i ys h1
    split at h <;> try (cases h; done)
    rename_i z h2
    cases h
    exact sound_val (ok_extract ho h1 h2 hd)
  · rename_i c y z ho
    unfold xPick at h
    split at h <;> try (cases h; done)
    rename_i b h1
    cases h
    exact sound_val (ok_pick ho h1 hd)
  · rename_i op t y z t' ho
    unfold xBin at h
    split at h <;> try (cases h; done)
    rename_i q v h1
    cases h
    unfold binX at h1
    split at h1 <;> try (cases h1; done)
    · rename_i k1 a k2 b hy hz
      split at h1 <;> try (cases h1; done)
      rename_i hk
      have hk := of_decide_eq_true hk
      subst hk
      exact sound_val (ok_binI ho hy hz h1 hp hd)
    · rename_i a b hy hz
      exact sound_val (ok_binS ho hy hz h1 hp hd)
    · rename_i a b hy hz
      split at h1 <;> try (cases h1; done)
      rename_i ht
      split at h1 <;> try (cases h1; done)
      · cases h1
        have := ok_binB (C := C) (s := s) (o := o) ht (.inl rfl) ho hy hz hd
        exact sound_val this
      · cases h1
        have := ok_binB (C := C) (s := s) (o := o) ht (.inr rfl) ho hy hz hd
        exact sound_val this
    · rename_i c hne hy hz
      split at h1 <;> try (cases h1; done)
      rename_i e ht
      split at h1 <;> try (cases h1; done)
      rename_i b hb
      split at h1 <;> try (cases h1; done)
      rename_i hm1 hm2
      split at h1 <;> try (cases h1; done)
      · cases h1
        have := ok_nilEq (C := C) (s := s) (o := o) ht (.inl rfl) ho hy hz hb hm1 hm2 hd
        exact sound_val this
      · cases h1
        have := ok_nilEq (C := C) (s := s) (o := o) ht (.inr rfl) ho hy hz hb hm1 hm2 hd
        exact sound_val this
  · rename_i op t y ho
    unfold xUn at h
    split at h <;> try (cases h; done)
    · rename_i b h1
      cases h
      exact sound_val (ok_not ho h1 hd)
    · rename_i b n h1
      cases h
      exact sound_val (ok_neg ho h1 hd)
  · rename_i t u y ho
    unfold xConv at h
    split at h <;> try (cases h; done)
    rename_i v h1
    cases h
    unfold convX at h1
    split at h1 <;> try (cases h1; done)
    · rename_i hy
      split at h1 <;> try (cases h1; done)
      rename_i d kk hd1 hd2
      cases h1
      exact sound_val (ok_convI hd1 hd2 ho hy hd)
    · rename_i hy
      split at h1 <;> try (cases h1; done)
      rename_i d hd1 hd2
      cases h1
      exact sound_val (ok_convS hd1 hd2 ho hy hd)
  · rename_i t y z ho
    unfold xElem at h
    split at h <;> try (cases h; done)
    rename_i c kk i e h1 h2 h3
    split at h <;> try (cases h; done)
    rename_i sz bs h4
    split at h <;> try (cases h; done)
    rename_i d h5
    cases h
    exact sound_val (ok_indexAddr ho h3 h4 h1 h2 hp h5 hd)
  · rename_i t y z ho
    unfold xIndexS at h
    split at h <;> try (cases h; done)
    rename_i b kk i h1 h2 h3
    cases h
    exact sound_val (ok_indexS ho h3 h1 h2 hp.1 hp.2 hd)
  · rename_i t y lo hi ho
    unfold xCut at h
    split at h <;> try (cases h; done)
    rename_i l u h1 h2
    split at h <;> try (cases h; done)
    · rename_i b h3
      split at h <;> try (cases h; done)
      rename_i h4
      cases h
      exact sound_val (ok_cutS ho h4 h3 h1 h2 hp hd)
    · rename_i c hne h3
      split at h <;> try (cases h; done)
      rename_i e h4
      split at h <;> try (cases h; done)
      rename_i sz bs n h5 h6
      split at h <;> try (cases h; done)
      rename_i h7
      split at h <;> try (cases h; done)
      rename_i d h8
      cases h
      exact sound_val (ok_cut ho h4 h5 (Nat.le_of_ble_eq_true h7) h3 h6 h1 h2 hp h8 hd)
  · rename_i f first ys ho
    split at h <;> try (cases h; done)
    rename_i hf
    unfold xFunc at h
    split at h <;> try (cases h; done)
    rename_i l h1
    cases h
    have hf' : first = #[] := by cases first; simp at hf; subst hf; rfl
    subst hf'
    exact sound_val (ok_makeFunc ho h1 hd)
  · rename_i b args ts ho
    split at h <;> try (cases h; done)
    · rename_i y t ha ht
      have ha' : args = #[y] := by cases args; simp at ha; subst ha; rfl
      have ht' : ts = #[t] := by cases ts; simp at ht; subst ht; rfl
      subst ha'
      subst ht'
      unfold xLen at h
      split at h <;> try (cases h; done)
      · rename_i b h3
        split at h <;> try (cases h; done)
        rename_i h4
        cases h
        exact sound_val (ok_lenS ho h4 h3 hd)
      · rename_i c hne h3
        split at h <;> try (cases h; done)
        rename_i e h4
        split at h <;> try (cases h; done)
        rename_i n h5
        cases h
        exact sound_val (ok_len ho h4 h3 h5 hd)
    · rename_i y z t t' ha ht
      split at h <;> try (cases h; done)
      rename_i htt
      have htt := beq_t htt
      subst htt
      have ha' : args = #[y, z] := by cases args; simp at ha; subst ha; rfl
      have ht' : ts = #[t, t] := by cases ts; simp at ht; subst ht; rfl
      subst ha'
      subst ht'
      unfold xAppend at h
      split at h <;> try (cases h; done)
      rename_i e h1
      split at h <;> try (cases h; done)
      rename_i sz bs zs h2 h3
      split at h <;> try (cases h; done)
      rename_i h4
      simp only [Bool.and_eq_true] at h4
      split at h <;> try (cases h; done)
      rename_i c h5
      split at h <;> try (cases h; done)
      rename_i ys h6
      split at h <;> try (cases h; done)
      · rename_i r h7
        split at h <;> try (cases h; done)
        rename_i e' xs h8
        split at h <;> try (cases h; done)
        rename_i h9
        have h9 := beq_t h9
        subst h9
        cases h
        have := ok_append (C := C) (s := s) (o := o) ho h1 h2 (Nat.le_of_ble_eq_true h4.1.1) (Nat.le_of_ble_eq_true h4.1.2) h3 (beq_t h4.2) h7 h8 h5 h6 hp hk hd
        refine ⟨?_, fun u hu j hj => ?_⟩
        · show OpOk C o s (((s.delO r).new k _).ups (dU o.dst _))
          rw [ups_dU]; exact this
        · rcases List.mem_cons.1 hu with rfl | hu
          · exact hj.elim
          · rcases List.mem_cons.1 hu with rfl | hu
            · exact hj.symm
            · exact (given_dU u hu j hj).elim
      · rename_i h7
        cases h
        exact sound_new (ok_append0 ho h1 h2 (Nat.le_of_ble_eq_true h4.1.1) (Nat.le_of_ble_eq_true h4.1.2) h3 (beq_t h4.2) h7 h5 h6 hp hk hd)
    all_goals
      unfold xExt at h
      split at h <;> try (cases h; done)
      rename_i y r ha
      split at h <;> try (cases h; done)
      rename_i kk h1
      split at h <;> try (cases h; done)
      rename_i n l h2
      cases h
      rw [← ha] at h2
      first | exact sound_val (ok_max ho h2 hd) | exact sound_val (ok_min ho h2 hd)
end snd

theorem given_exec1 {P : Program} {k : Nat} {o : Oper} {s : St} {F : List Key} {p : Prop} {U : List Upd} (h : exec1 P k o s = some (F, p, U)) : ∀ u ∈ U, ∀ j, u.given j → j = k := by
  have n1 : ∀ {ob : Obj} {v : TV}, ∀ u ∈ Upd.new k ob :: dU o.dst v, ∀ j, u.given j → j = k := by
    intro ob v u hu j hj
    rcases List.mem_cons.1 hu with rfl | hu
    · exact hj.symm
    · exact (given_dU u hu j hj).elim
  have n2 : ∀ {v : TV}, ∀ u ∈ dU o.dst v, ∀ j, u.given j → j = k := fun u hu j hj => (given_dU u hu j hj).elim
  have n3 : ∀ {r : Nat} {ob : Obj} {v : TV}, ∀ u ∈ Upd.del r :: Upd.new k ob :: dU o.dst v, ∀ j, u.given j → j = k := by
    intro r ob v u hu j hj
    rcases List.mem_cons.1 hu with rfl | hu
    · exact hj.elim
    · exact n1 u hu j hj
  have n4 : ∀ {r : Nat} {ob : Obj}, ∀ u ∈ [Upd.set r ob], ∀ j, u.given j → j = k := by
    intro r ob u hu j hj
    simp at hu
    subst hu
    exact hj.elim
  unfold exec1 at h
  split at h <;> try (cases h; done)
  split at h <;> try (cases h; done)
  all_goals (try unfold xBox at h) <;> (try unfold xBuild at h) <;> (try unfold xLit at h) <;> (try unfold xLoad at h) <;> (try unfold xStore at h) <;> (try unfold xField at h) <;> (try unfold xNil at h) <;> (try unfold xExtract at h) <;> (try unfold xPick at h) <;> (try unfold xBin at h) <;> (try unfold xUn at h) <;> (try unfold xConv at h) <;> (try unfold xElem at h) <;> (try unfold xIndexS at h) <;> (try unfold xCut at h) <;> (try unfold xFunc at h)
  all_goals first
    | (cases h; exact n2)
    | (repeat' (split at h <;> try (cases h; done)))
  all_goals (try unfold xLen at h) <;> (try unfold xAppend at h) <;> (try unfold xExt at h)
  all_goals (repeat' (split at h <;> try (cases h; done)))
  all_goals (cases h; first | exact n2 | exact n1 | exact n3 | exact n4)

/-! ### guards -/
/-- The operation, its guard aside: reckoned, or shown by hand. -/
def AX (C : Ctx) (k : Nat) (o : Oper) (s : St) (K : List Key → List Upd → Prop) : Prop :=
  ∃ F U, (∀ s1, agreeOn F s s1 → s1.nt = s.nt → ¬ s1.used k → OpOk C o s1 (s1.ups U)) ∧ (∀ u ∈ U, ∀ j, u.given j → j = k) ∧ K F U
def AOp (C : Ctx) (k : Nat) (o : Oper) (s : St) (K : List Key → List Upd → Prop) : Prop :=
  match exec1 C.P k o s with
  | some (F, p, U) => p ∧ K F U
  | none => AX C k o s K
theorem AOp.out {C : Ctx} {k : Nat} {o : Oper} {s : St} {K : List Key → List Upd → Prop} (h : AOp C k o s K) : AX C k o s K := by
  unfold AOp at h
  split at h
  · rename_i F p U he
    exact ⟨F, U, fun s1 ha hn hk => (sound_exec1 (cong_exec1 he ha hn) h.1 hk).1, given_exec1 he, h.2⟩
  · exact h
def skU (d : Option Nat) : List Upd := match d with | some d => [.put d (.t [])] | none => []
def dstAt : List Oper → Nat → Option Nat
  | [], _ => none
  | o :: _, 0 => o.dst
  | _ :: r, n + 1 => dstAt r n
theorem dstAt_eq : ∀ (l : List Oper) (j : Nat), dstAt l j = (l[j]?).bind (·.dst)
  | [], _ => by simp [dstAt]
  | o :: _, 0 => by simp [dstAt]
  | _ :: r, n + 1 => by simp [dstAt, dstAt_eq r n]
def gv (v b : Bool) : Bool := match v with | true => b | false => !b
theorem gv_spec (v b : Bool) : gv v b = decide (v = b) := by cases v <;> cases b <;> rfl
def AStep (C : Ctx) (ops : Array Oper) (k : Nat) (o : Oper) (s : St) (K : List Key → List Upd → Prop) : Prop :=
  match o.guard with
  | none => AOp C k o s K
  | some (j, b) => (match dstAt ops.toList j with
    | some d => (match dstOk o.dst s.nt with
      | true => (match s.tv d with
        | .c (.im (.flat (.bool v))) => (match gv v b with | true => AOp C k o s fun F U => K (.t d :: F) U | false => K [.t d] (skU o.dst))
        | .t [] => K [.t d] (skU o.dst)
        | _ => False)
      | false => False)
    | none => False)
theorem sim_skip {C : Ctx} {s : St} {a : Act} {w : World} (h : S C s a w) {d : Option Nat} (hd : dstOk d s.nt = true) : S C (s.ups (skU d)) (a.put d undef) w := by
  obtain ⟨L, h⟩ := h
  cases d with
  | none => exact ⟨L, h⟩
  | some d => exact ⟨L, h.put (some d) (dstOk_spec hd) ⟨[], rfl, Al.nil⟩⟩
theorem given_sk {d : Option Nat} : ∀ u ∈ skU d, ∀ j, u.given j → False := by
  intro u hu j hj
  cases d with
  | none => simp [skU] at hu
  | some d => simp [skU] at hu; subst hu; exact hj
theorem AStep.out {C : Ctx} {ops : Array Oper} {n0 i : Nat} {o : Oper} {s : St} {K : List Key → List Upd → Prop} (h : AStep C ops (n0 + i) o s K) :
    ∃ F U, (StepOk C ops n0 i o F U s ∧ ∀ u ∈ U, ∀ k, u.given k → k = n0 + i) ∧ K F U := by
  unfold AStep at h
  split at h
  · rename_i hg
    obtain ⟨F, U, h1, h2, h3⟩ := h.out
    refine ⟨F, U, ⟨fun s1 ha hn hk a w hs next Q hnext => ?_, h2⟩, h3⟩
    rw [if_pos (by simp [Region.wanted, hg])]
    exact h1 s1 ha hn hk a w hs next Q hnext
  · rename_i j b hg
    split at h
    · rename_i d hd
      rw [dstAt_eq, Array.getElem?_toList] at hd
      split at h
      · rename_i hdst
        have hy : ∀ (s1 : St) (a : Act) (w : World) (v : Bool), S C s1 a w → s1.tv d = .c (.im (.flat (.bool v))) → yielded ops a.tmps j = some v := by
          intro s1 a w v ⟨L, hs⟩ hv
          have h1 := ev_flat (y := .tmp d) hs hv
          unfold yielded
          rw [hd]
          simp only [Option.bind_some]
          have : a.tmps[d]? = some (.bool v) := by
            have h2 : a.tmps.getD d undef = .bool v := h1
            rw [Array.getD_eq_getD_getElem?] at h2
            cases hx : a.tmps[d]? with
            | none => rw [hx] at h2; simp [undef] at h2
            | some x => rw [hx] at h2; simpa using h2
          rw [this]
        split at h
        · rename_i v hv
          rw [gv_spec] at h
          by_cases hvb : v = b
          · rw [decide_eq_true hvb] at h
            obtain ⟨F, U, h1, h2, h3⟩ := AOp.out h
            refine ⟨.t d :: F, U, ⟨fun s1 ha hn hk a w hs next Q hnext => ?_, h2⟩, h3⟩
            have hd1 : s1.tv d = s.tv d := ha (.t d) (by simp)
            rw [if_pos (by simp [Region.wanted, hg, hy s1 a w v hs (hd1.trans hv), hvb])]
            exact h1 s1 (fun x hx => ha x (by simp [hx])) hn hk a w hs next Q hnext
          · refine ⟨[.t d], skU o.dst, ⟨fun s1 ha hn hk a w hs next Q hnext => ?_, fun u hu j hj => (given_sk u hu j hj).elim⟩, by rw [decide_eq_false hvb] at h; exact h⟩
            have hd1 : s1.tv d = s.tv d := ha (.t d) (by simp)
            rw [if_neg (by simp [Region.wanted, hg, hy s1 a w v hs (hd1.trans hv), hvb])]
            exact hnext _ _ (sim_skip hs (by rw [hn]; exact hdst))
        · rename_i hv
          refine ⟨[.t d], skU o.dst, ⟨fun s1 ha hn hk a w hs next Q hnext => ?_, fun u hu j hj => (given_sk u hu j hj).elim⟩, h⟩
          have hd1 : s1.tv d = s.tv d := ha (.t d) (by simp)
          have hyn : yielded ops a.tmps j = none := by
            obtain ⟨L, hs⟩ := hs
            have h1 := hs.tm d
            rw [hd1, hv] at h1
            obtain ⟨vs, h2, h3⟩ := h1
            obtain rfl := h3.nil_right
            unfold yielded
            rw [hd]
            simp only [Option.bind_some]
            rw [Array.getD_eq_getD_getElem?] at h2
            cases hx : a.tmps[d]? with
            | none => rfl
            | some x => rw [hx] at h2; simp at h2; rw [h2]
          rw [if_neg (by simp [Region.wanted, hg, hyn])]
          exact hnext _ _ (sim_skip hs (by rw [hn]; exact hdst))
        · exact h.elim
      · exact h.elim
    · exact h.elim
/-- A region's operations, one behind the other, the state told at each step. -/
def Run (C : Ctx) (ops : Array Oper) (n0 : Nat) : Nat → List Oper → St → (St → Prop) → Prop
  | _, [], s, K => K s
  | i, o :: r, s, K => AStep C ops (n0 + i) o s fun _ U => Run C ops n0 (i + 1) r (s.ups U) K
theorem Run.reg {C : Ctx} {ops : Array Oper} {n0 : Nat} {s0 : St} {K : St → Prop} : ∀ {l : List Oper} {i : Nat} {pre : Trace}, Run C ops n0 i l (s0.ups pre.ups) K → Reg C ops n0 s0 i l pre fun tr => K (s0.ups tr.ups)
  | [], i, pre, h => h
  | o :: r, i, pre, h => by
    obtain ⟨F, U, h1, h2⟩ := AStep.out h
    refine ⟨F, U, h1, ?_⟩
    have e : s0.ups (Trace.ups (pre ++ [(F, U)])) = (s0.ups pre.ups).ups U := by
      simp only [Trace.ups, List.map_append, List.flatten_append, List.map_cons, List.map_nil, List.flatten_cons, List.flatten_nil, List.append_nil, St.ups_append]
    exact Run.reg (by rw [e]; exact h2)
theorem W.reg {C : Ctx} {s : St} {Q : Exit → St → Prop} {id : Nat} {ops : Array Oper} (hex : s.ex = []) (h : Run C ops s.nx 0 ops.toList s fun s' => Q .normal (s'.bump (s.nx + ops.toList.length))) : W C (.region id ops false) s Q :=
  W.region rfl hex (Run.reg (pre := []) h)
/-- The same, with the keys of what is read and written. -/
abbrev KTrace := List (List Key × List Key)
def disjK (F G : List Key) : Bool := F.all fun x => G.all fun y => !Key.beq x y
def apartK (x y : List Key × List Key) : Bool := disjK x.1 y.2 && disjK y.1 x.2 && disjK x.2 y.2
def apartAllK (L : List Oper) (o : Oper) (x : List Key × List Key) : Nat → KTrace → Bool
  | _, [] => true
  | j, y :: r => (edgeTo o j || (apartK x y || reach L 4 o j)) && apartAllK L o x (j + 1) r
def indepK (L : List Oper) : KTrace → List Oper → KTrace → Bool
  | _, [], _ => true
  | pre, o :: r, x :: tr => apartAllK L o x 0 pre && indepK L (pre ++ [x]) r tr
  | _, _ :: _, [] => true
def keysOf (tr : Trace) : KTrace := tr.map fun x => (x.1, x.2.map Upd.key)
theorem apartK_eq (x y : List Key × List Upd) : apartK (x.1, x.2.map Upd.key) (y.1, y.2.map Upd.key) = apart2 x y := by
  unfold apartK apart2 disjK disj disjU
  simp only [List.all_map]
  rfl
theorem apartAllK_eq (L : List Oper) (o : Oper) (x : List Key × List Upd) : ∀ (n : Nat) (l : Trace), apartAllK L o (x.1, x.2.map Upd.key) n (keysOf l) = apartAll L o x n l
  | _, [] => rfl
  | n, y :: r => by
    have := apartAllK_eq L o x (n + 1) r
    simp only [keysOf, List.map_cons, apartAllK, apartAll, apartK_eq] at this ⊢
    rw [this]
theorem indepK_eq (L : List Oper) : ∀ (pre : Trace) (l : List Oper) (tr : Trace), indepK L (keysOf pre) l (keysOf tr) = indep L pre l tr
  | _, [], _ => by simp [indepK, indep]
  | pre, o :: r, [] => by simp [indepK, indep, keysOf]
  | pre, o :: r, x :: tr => by
    have h1 := apartAllK_eq L o x 0 pre
    have h2 := indepK_eq L (pre ++ [x]) r tr
    simp only [keysOf, List.map_append, List.map_cons, List.map_nil, indepK, indep] at h1 h2 ⊢
    rw [h1, h2]
def RunD (C : Ctx) (ops : Array Oper) (n0 : Nat) : Nat → List Oper → St → KTrace → (St → KTrace → Prop) → Prop
  | _, [], s, tr, K => K s tr
  | i, o :: r, s, tr, K => AStep C ops (n0 + i) o s fun F U => RunD C ops n0 (i + 1) r (s.ups U) (tr ++ [(F, U.map Upd.key)]) K
theorem RunD.reg {C : Ctx} {ops : Array Oper} {n0 : Nat} {s0 : St} {K : St → KTrace → Prop} : ∀ {l : List Oper} {i : Nat} {pre : Trace}, RunD C ops n0 i l (s0.ups pre.ups) (keysOf pre) K → Reg C ops n0 s0 i l pre fun tr => K (s0.ups tr.ups) (keysOf tr)
  | [], i, pre, h => h
  | o :: r, i, pre, h => by
    obtain ⟨F, U, h1, h2⟩ := AStep.out h
    refine ⟨F, U, h1, ?_⟩
    have e : s0.ups (Trace.ups (pre ++ [(F, U)])) = (s0.ups pre.ups).ups U := by
      simp only [Trace.ups, List.map_append, List.flatten_append, List.map_cons, List.map_nil, List.flatten_cons, List.flatten_nil, List.append_nil, St.ups_append]
    exact RunD.reg (by rw [e]; simpa [keysOf] using h2)
theorem W.regD {C : Ctx} {s : St} {Q : Exit → St → Prop} {id : Nat} {ops : Array Oper} (hf : C.P.follows .mixedOrders = true) (hb : backs 0 ops.toList = true) (hex : s.ex = []) (h : RunD C ops s.nx 0 ops.toList s [] fun s' tr => indepK ops.toList [] ops.toList tr = true ∧ Q .normal (s'.bump (s.nx + ops.toList.length))) : W C (.region id ops true) s Q := by
  refine W.regionD hf rfl hb hex ?_
  have := RunD.reg (pre := []) (K := fun s' tr => indepK ops.toList [] ops.toList tr = true ∧ Q .normal (s'.bump (s.nx + ops.toList.length))) h
  have e : ∀ tr : Trace, (indepK ops.toList [] ops.toList (keysOf tr) = true) = (indep ops.toList [] ops.toList tr = true) := fun tr => by rw [← indepK_eq ops.toList [] ops.toList tr]; rfl
  simpa only [e] using this
end Go.Exe
