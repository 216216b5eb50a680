import Derived.Test.YtigenjeealkdlaaGreatM6
set_option linter.unusedVariables false
set_option linter.unusedSimpArgs false
set_option maxHeartbeats 8000000
set_option maxRecDepth 100000
namespace Go.Proofs.YtigenjeealkdlaaGreat
open Go.RowKit Go.Exe
/-! ### spans by their traces -/
def putK (m : RM) (s : Spn) : RM := match m with
  | [] => [(s.tr, [s])]
  | y :: r => if y.1 = s.tr then (y.1, y.2 ++ [s]) :: r else y :: putK r s
def getK (m : RM) (k : Int) : Option (List Spn) := match m with
  | [] => none
  | y :: r => if y.1 = k then some y.2 else getK r k
def kmN (l : List Spn) (n : Nat) : RM := (l.take n).foldl putK []
def kE (m : RM) : List (Value × Bool × List Cell) := m.map fun y => (.int .i64 y.1, false, [.orow 88 (y.2.map spA)])
def kEA (m : RM) : List (Value × Bool × List AV) := m.map fun y => (.int .i64 y.1, false, [.sl 88 (y.2.map spA)])
theorem kE_close (m : RM) : closeE (kE m) = some (kEA m) := closeE_map _ _ (fun x => ⟨rfl, rfl, by simp [closeL, closeC, unim_im]⟩) m
theorem kmN_step {l : List Spn} {i : Nat} {s : Spn} (h : l[i]? = some s) : kmN l (i + 1) = putK (kmN l i) s := by
  unfold kmN
  rw [List.take_add_one, h]
  simp [List.foldl_append]
theorem getK_put (m : RM) (s : Spn) (k : Int) : getK (putK m s) k = if s.tr = k then some (((getK m k).getD []) ++ [s]) else getK m k := by
  induction m with
  | nil => simp [putK, getK]
  | cons y r ih =>
    simp only [putK, getK]
    by_cases h : y.1 = s.tr
    · rw [if_pos h]
      simp only [getK]
      by_cases h2 : y.1 = k
      · simp [h2, ← h]
      · have : ¬ s.tr = k := by rw [← h]; exact h2
        simp [h2, this]
    · rw [if_neg h]
      simp only [getK, ih]
      by_cases h2 : y.1 = k
      · have : ¬ s.tr = k := by rw [← h2]; exact fun e => h e.symm
        simp [h2, this]
      · simp [h2]
theorem rnEs_kE (r : Ren) (m : RM) : rnEs r (kE m) = kE m := rnEs_map r _ (fun _ => rfl) _
theorem putK_at {s : Spn} : ∀ {m : RM} {j : Nat} {y : Int × List Spn}, (m.map (·.1)).Nodup → m[j]? = some y → y.1 = s.tr → putK m s = m.set j (y.1, y.2 ++ [s])
  | x :: r, 0, y, _, h, e => by simp at h; subst h; simp [putK, e]
  | x :: r, j + 1, y, hn, h, e => by
    simp only [List.map_cons, List.nodup_cons] at hn
    have hne : x.1 ≠ s.tr := fun e' => hn.1 (by rw [e', ← e]; exact List.mem_map_of_mem (List.mem_of_getElem? (by simpa using h)))
    simp [putK, hne, putK_at hn.2 (by simpa using h) e]
theorem putK_none {s : Spn} : ∀ {m : RM}, (∀ y ∈ m, y.1 ≠ s.tr) → putK m s = m ++ [(s.tr, [s])]
  | [], _ => rfl
  | x :: r, h => by simp [putK, h x (by simp), putK_none (m := r) fun y hy => h y (by simp [hy])]
theorem putK_keys {m : RM} (s : Spn) (hn : (m.map (·.1)).Nodup) : ((putK m s).map (·.1)).Nodup := by
  by_cases h : ∃ y ∈ m, y.1 = s.tr
  · obtain ⟨y, hy, e⟩ := h
    obtain ⟨j, hj⟩ := List.getElem?_of_mem hy
    rw [putK_at hn hj e, List.map_set]
    have hl := (List.getElem?_eq_some_iff.1 hj).1
    have : (m.map (·.1)).set j y.1 = m.map (·.1) := by
      have h2 : y.1 = (m.map (·.1))[j]'(by simpa using hl) := by
        rw [← (List.getElem?_eq_some_iff.1 hj).2]; simp
      rw [h2, List.set_getElem_self]
    simp only [this]; exact hn
  · rw [putK_none fun y hy e => h ⟨y, hy, e⟩, List.map_append]
    refine List.nodup_append.2 ⟨hn, by simp, fun a ha b hb => ?_⟩
    obtain ⟨c, hc, rfl⟩ := List.mem_map.1 ha
    simp at hb; subst hb
    exact fun e => h ⟨c, hc, e⟩
theorem kmN_keys (l : List Spn) (n : Nat) : ((kmN l n).map (·.1)).Nodup := by
  unfold kmN
  have key : ∀ (l : List Spn) (m : RM), (m.map (·.1)).Nodup → ((l.foldl putK m).map (·.1)).Nodup := by
    intro l
    induction l with
    | nil => exact fun m h => h
    | cons s l ih => exact fun m h => ih _ (putK_keys s h)
  exact key _ [] List.Pairwise.nil
/-- How many spans the map holds under a key. -/
theorem kmN_len (l : List Spn) (n : Nat) : ∀ y ∈ kmN l n, y.2.length ≤ n := by
  have key : ∀ (l : List Spn) (m : RM) (b : Nat), (∀ y ∈ m, y.2.length ≤ b) → ∀ y ∈ l.foldl putK m, y.2.length ≤ b + l.length := by
    intro l
    induction l with
    | nil => exact fun m b h => h
    | cons s l ih =>
      intro m b h y hy
      have h2 : ∀ z ∈ putK m s, z.2.length ≤ b + 1 := by
        intro z hz
        clear hy ih
        induction m with
        | nil => simp [putK] at hz; subst hz; simp
        | cons x r ihr =>
          unfold putK at hz
          split at hz
          · rcases List.mem_cons.1 hz with rfl | hz
            · have := h x (by simp); simp; omega
            · have := h z (by simp [hz]); omega
          · rcases List.mem_cons.1 hz with rfl | hz
            · have := h z (by simp); omega
            · exact ihr (fun y hy => h y (by simp [hy])) hz
      have := ih _ _ h2 y hy
      simp only [List.length_cons]; omega
  intro y hy
  have := key _ [] 0 (by simp) y hy
  have h2 := List.length_take (i := n) (l := l)
  omega
theorem mget_sE {key : Value} {es : List (Value × Bool × List Cell)} {i : Nat} {cs : List Cell} {c : Cell} (hn : (es.map (·.1)).Nodup) (h : es[i]? = some (key, false, cs)) : mget key (Go.Exe.setE es i c) = some (false, [c]) := by
  rw [Go.Exe.setE_set c h]
  have hl := (List.getElem?_eq_some_iff.1 h).1
  refine mget_at (j := i) (e := (key, false, [c])) ?_ ?_ rfl
  · have := Go.Exe.setE_keys es i c
    rw [Go.Exe.setE_set c h] at this
    rw [this]; exact hn
  · rw [List.getElem?_set_self hl]
theorem mput_sE {key : Value} {es : List (Value × Bool × List Cell)} {i : Nat} {cs : List Cell} {c d : Cell} (hn : (es.map (·.1)).Nodup) (h : es[i]? = some (key, false, cs)) : mput key (false, [d]) (Go.Exe.setE es i c) = Go.Exe.setE es i d := by
  have hk := Go.Exe.setE_keys es i c
  have hl := (List.getElem?_eq_some_iff.1 h).1
  rw [mput_at (j := i) (e := (key, false, [c])) (by rw [hk]; exact hn) (by rw [Go.Exe.setE_set c h, List.getElem?_set_self hl]) rfl, Go.Exe.setE_set c h, Go.Exe.setE_set d h, List.set_set]
theorem sE_sE : ∀ (es : List (Value × Bool × List Cell)) (i : Nat) (c d : Cell), Go.Exe.setE (Go.Exe.setE es i c) i d = Go.Exe.setE es i d
  | [], _, _, _ => rfl
  | e :: r, 0, c, d => rfl
  | e :: r, i + 1, c, d => by simp [Go.Exe.setE, sE_sE r i c d]
theorem kE_keys (m : RM) : (kE m).map (·.1) = (m.map (·.1)).map fun k => Value.int .i64 k := by simp [kE, Function.comp_def]
theorem kE_nodup {m : RM} (h : (m.map (·.1)).Nodup) : ((kE m).map (·.1)).Nodup := by
  rw [kE_keys]
  unfold List.Nodup at h ⊢
  rw [List.pairwise_map]
  exact h.imp fun {a b} hab e => hab (by injection e)
theorem kE_set {m : RM} {j : Nat} {y : Int × List Spn} (h : m[j]? = some y) (z : List Spn) : Go.Exe.setE (kE m) j (.orow 88 (z.map spA)) = kE (m.set j (y.1, z)) := by
  rw [Go.Exe.setE_set (key := .int .i64 y.1) (b := false) (cs := [.orow 88 (y.2.map spA)]) _ (by simp [kE, h])]
  simp [kE, List.map_set]
theorem snocS (l : List Spn) (s : Spn) : imR ((l ++ [s]).map spA) = imR (l.map spA) ++ [(spA s).map .im] := by simp [imR, imL]
theorem kE_get {m : RM} {j : Nat} {y : Int × List Spn} (h : m[j]? = some y) : (kE m)[j]? = some (.int .i64 y.1, false, [.orow 88 (y.2.map spA)]) := by simp [kE, h]
theorem kE_no {m : RM} {k : Int} (h : ∀ y ∈ m, y.1 ≠ k) : ∀ e ∈ kE m, e.1 ≠ Value.int .i64 k := fun e he => by
  obtain ⟨y, hy, rfl⟩ := List.mem_map.1 he
  exact fun e => h y hy (by injection e)
theorem kE_snoc (m : RM) (k : Int) (n : Nat) (z : List Spn) : Go.Exe.setE (kE m ++ [(Value.int .i64 k, false, [Cell.ref n])]) m.length (.orow 88 (z.map spA)) = kE (m ++ [(k, z)]) := by
  induction m with
  | nil => rfl
  | cons y r ih => simp only [kE, List.map_cons, List.cons_append, List.length_cons, Go.Exe.setE] at ih ⊢; rw [ih]
theorem froE_kE (m : RM) : froE (kEA m) = m.map fun y => (Value.int .i64 y.1, false, [Cell.im (.sl 88 (y.2.map spA))]) := by
  rw [froE_map]; simp [kEA, imL]
theorem kEA_get (k : Int) : ∀ m : RM, mget (.int .i64 k) (froE (kEA m)) = (getK m k).map fun l => (false, [.im (.sl 88 (l.map spA))]) := by
  intro m
  rw [froE_kE]
  induction m with
  | nil => rfl
  | cons y r ih =>
    simp only [List.map_cons, mget, getK]
    by_cases h : y.1 = k
    · simp [h]
    · simp [h, ih]

/-! ### the records of an assembler -/
def putR (m : RM) (k : Int) (l : List Spn) : RM := match m with
  | [] => [(k, l)]
  | y :: r => if y.1 = k then (y.1, l) :: r else y :: putR r k l
theorem rcE_get (k : Int) : ∀ m : RM, mget (.int .i64 k) (rcE m) = (getK m k).map fun l => (false, [.im (.sl 88 (l.map spA))]) := by
  intro m
  induction m with
  | nil => rfl
  | cons y r ih =>
    simp only [rcE, List.map_cons, mget, getK] at ih ⊢
    by_cases h : y.1 = k
    · simp [h]
    · simp [h, ih]
theorem rcE_put (k : Int) (l : List Spn) : ∀ m : RM, mput (.int .i64 k) (false, [.im (.sl 88 (l.map spA))]) (rcE m) = rcE (putR m k l) := by
  intro m
  induction m with
  | nil => rfl
  | cons y r ih =>
    simp only [rcE, List.map_cons, mput, putR] at ih ⊢
    by_cases h : y.1 = k
    · simp [h]
    · simp [h, ih]
theorem rnEs_rcE (r : Ren) (m : RM) : rnEs r (rcE m) = rcE m := rnEs_map r _ (fun _ => rfl) _
theorem rcEA_kEA (m : RM) : rcEA m = kEA m := rfl
theorem putR_keys {m : RM} {k : Int} {l : List Spn} (h : (m.map (·.1)).Nodup) : ((putR m k l).map (·.1)).Nodup := by
  have key : ∀ m : RM, (putR m k l).map (·.1) = m.map (·.1) ∨ ((putR m k l).map (·.1) = m.map (·.1) ++ [k] ∧ k ∉ m.map (·.1)) := by
    intro m
    induction m with
    | nil => right; simp [putR]
    | cons y r ih =>
      unfold putR
      by_cases e : y.1 = k
      · left; simp [e]
      · rw [if_neg e]
        rcases ih with ih | ⟨ih, hn⟩
        · left; simp [ih]
        · right
          refine ⟨by simp [ih], ?_⟩
          simp only [List.map_cons, List.mem_cons, not_or]
          exact ⟨fun e2 => e e2.symm, hn⟩
  rcases key m with e | ⟨e, hn⟩
  · rw [e]; exact h
  · rw [e, List.nodup_append]
    exact ⟨h, by simp, fun a ha b hb => by simp at hb; subst hb; exact fun e => hn (e ▸ ha)⟩
/-- What Add does. -/
def chkL : List Spn → Int
  | [] => 0
  | s :: r => if chkS s != 0 then chkS s else chkL r
def moreR (l : List Spn) : RM := kmN (setS l) (setS l).length
def recs (m : RM) (t : Int) : List Spn := (getK m t).getD []
def nowR (l : List Spn) (m : RM) (t : Int) : List Spn := setS (recs m t ++ recs (moreR l) t)
def chgR (l : List Spn) (m : RM) (t : Int) : Bool := !eqSs (winS (nowR l m t)) (winS (recs m t))
def addS (l : List Spn) (x : RM × List Int) (t : Int) : RM × List Int := (putR x.1 t (nowR l x.1 t), if chgR l x.1 t then x.2 ++ [t] else x.2)
def addF (m : RM) (l : List Spn) : RM × List Int := (srtI ((moreR l).map (·.1))).foldl (addS l) (m, [])
end Go.Proofs.YtigenjeealkdlaaGreat
namespace Go.Proofs.YtigenjeealkdlaaGreat
open Go.RowKit Go.Exe
/-! ### Add -/
theorem chkL_0 : ∀ {l : List Spn}, chkL l = 0 → ∀ s ∈ l, chkS s = 0
  | [], _, s, hs => by cases hs
  | x :: r, h, s, hs => by
    rw [chkL] at h
    by_cases e : chkS x = 0
    · rw [e] at h
      rcases List.mem_cons.1 hs with rfl | hs
      · exact e
      · exact chkL_0 (by simpa using h) s hs
    · rw [if_pos (by simpa using e)] at h
      exact absurd h e
attribute [local irreducible] W AX Run RunD AStep AOp AOpX AStB AStH AStG Fits PCall GCall PostG Post Stop
end Go.Proofs.YtigenjeealkdlaaGreat
namespace Go.Proofs.YtigenjeealkdlaaGreat
open Go.RowKit Go.Exe
theorem compT_sub : ∀ (l : List Spn) (p : Spn), (compT p l).Sublist l
  | [], _ => List.Sublist.slnil
  | x :: r, p => by
    unfold compT
    split
    · exact (compT_sub r x).cons _
    · exact (compT_sub r x).cons_cons _
theorem compG_sub (l : List Spn) : (compG l).Sublist l := by
  cases l with
  | nil => exact List.Sublist.slnil
  | cons x r => exact (compT_sub r x).cons_cons _
theorem setS_mem {l : List Spn} {s : Spn} (h : s ∈ setS l) : s ∈ l := (srtG_perm Spn.cmp l).mem_iff.1 ((compG_sub _).subset h)
theorem setS_le (l : List Spn) : (setS l).length ≤ l.length := by
  have := (compG_sub (srtG Spn.cmp l)).length_le
  rwa [(srtG_perm Spn.cmp l).length_eq] at this
theorem kmN_tr {l : List Spn} {n : Nat} {y : Int × List Spn} (h : y ∈ kmN l n) : ∃ s ∈ l, s.tr = y.1 := by
  have key : ∀ (l : List Spn) (m : RM), ∀ y ∈ l.foldl putK m, (∃ z ∈ m, z.1 = y.1) ∨ ∃ s ∈ l, s.tr = y.1 := by
    intro l
    induction l with
    | nil => exact fun m y hy => .inl ⟨y, hy, rfl⟩
    | cons s l ih =>
      intro m y hy
      rcases ih _ y hy with ⟨z, hz, e⟩ | ⟨t, ht, e⟩
      · have h2 : ∀ m : RM, ∀ z ∈ putK m s, (∃ w ∈ m, w.1 = z.1) ∨ s.tr = z.1 := by
          intro m
          induction m with
          | nil => intro z hz; simp [putK] at hz; subst hz; exact .inr rfl
          | cons x r ihr =>
            intro z hz
            unfold putK at hz
            split at hz
            · rcases List.mem_cons.1 hz with rfl | hz
              · exact .inl ⟨x, by simp, rfl⟩
              · exact .inl ⟨z, by simp [hz], rfl⟩
            · rcases List.mem_cons.1 hz with rfl | hz
              · exact .inl ⟨z, by simp, rfl⟩
              · rcases ihr z hz with ⟨w, hw, e⟩ | e
                · exact .inl ⟨w, by simp [hw], e⟩
                · exact .inr e
        rcases h2 m z hz with ⟨w, hw, e2⟩ | e2
        · exact .inl ⟨w, hw, e2.trans e⟩
        · exact .inr ⟨s, by simp, e2.trans e⟩
      · exact .inr ⟨t, by simp [ht], e⟩
  rcases key _ [] y h with ⟨z, hz, _⟩ | ⟨s, hs, e⟩
  · cases hz
  · exact ⟨s, List.mem_of_mem_take hs, e⟩
theorem moreR_tr {l : List Spn} {t : Int} (h : t ∈ (moreR l).map (·.1)) : ∃ s ∈ l, s.tr = t := by
  obtain ⟨y, hy, rfl⟩ := List.mem_map.1 h
  obtain ⟨s, hs, e⟩ := kmN_tr hy
  exact ⟨s, setS_mem hs, e⟩
theorem getK_mem {m : RM} {k : Int} {l : List Spn} (h : getK m k = some l) : (k, l) ∈ m := by
  induction m with
  | nil => cases h
  | cons y r ih =>
    rw [getK] at h
    by_cases e : y.1 = k
    · rw [if_pos e] at h
      cases h
      subst e
      simp
    · rw [if_neg e] at h
      exact List.mem_cons_of_mem _ (ih h)
theorem recs_le {m : RM} {B : Nat} (h : ∀ y ∈ m, y.2.length ≤ B) (t : Int) : (recs m t).length ≤ B := by
  unfold recs
  cases hg : getK m t with
  | none => simp
  | some l => exact h _ (getK_mem hg)
theorem putR_mem {m : RM} {k : Int} {l : List Spn} {y : Int × List Spn} (h : y ∈ putR m k l) : y ∈ m ∨ y.2 = l := by
  induction m with
  | nil => simp [putR] at h; subst h; exact .inr rfl
  | cons z r ih =>
    unfold putR at h
    split at h
    · rcases List.mem_cons.1 h with rfl | h
      · exact .inr rfl
      · exact .inl (by simp [h])
    · rcases List.mem_cons.1 h with rfl | h
      · exact .inl (by simp)
      · rcases ih h with h | h
        · exact .inl (by simp [h])
        · exact .inr h
theorem nowR_le {l : List Spn} {m : RM} {B : Nat} (h : ∀ y ∈ m, y.2.length ≤ B) (t : Int) : (recs m t ++ recs (moreR l) t).length ≤ B + l.length ∧ (nowR l m t).length ≤ B + l.length := by
  have h1 := recs_le h t
  have h2 := recs_le (m := moreR l) (B := (setS l).length) (fun y hy => kmN_len _ _ y hy) t
  have h3 := setS_le l
  have h4 : (recs m t ++ recs (moreR l) t).length ≤ B + l.length := by rw [List.length_append]; omega
  exact ⟨h4, Nat.le_trans (setS_le _) h4⟩
end Go.Proofs.YtigenjeealkdlaaGreat
namespace Go.Proofs.YtigenjeealkdlaaGreat
open Go.RowKit Go.Exe
theorem kmN_length (l : List Spn) (n : Nat) : (kmN l n).length ≤ n := by
  have h1 : ∀ (m : RM) (s : Spn), (putK m s).length ≤ m.length + 1 := by
    intro m s
    induction m with
    | nil => simp [putK]
    | cons y r ih => unfold putK; split <;> simp <;> omega
  have key : ∀ (l : List Spn) (m : RM), (l.foldl putK m).length ≤ m.length + l.length := by
    intro l
    induction l with
    | nil => simp
    | cons s l ih => intro m; have := ih (putK m s); have := h1 m s; simp only [List.foldl_cons, List.length_cons]; omega
  have := key (l.take n) []
  have h2 := List.length_take (i := n) (l := l)
  simp only [List.length_nil] at this
  unfold kmN
  omega
theorem chg_none {m : RM} {t : Int} (h : getK m t = none) : recs m t = [] := by unfold recs; rw [h]; rfl
theorem chg_some {o : List Spn} {m : RM} {t : Int} (h : getK m t = some o) : recs m t = o := by unfold recs; rw [h]; rfl
attribute [local irreducible] W AX Run RunD AStep AOp AOpX AStB AStH AStG Fits PCall GCall PostG Post Stop
theorem add_c (c144 : SortC Tryz.prog 144 14) (c85 : SortI Tryz.prog 85) (g122 : GrowC Tryz.prog 122 88 14 168) (m : RM) (l : List Spn) (B : Nat) (hz : ∀ s ∈ l, StrOk s) (hc : chkL l = 0) (hI : ∀ s ∈ l, I64 s.tr) (hB : ∀ y ∈ m, y.2.length ≤ B)
    (hb : (B + (l.length + 1) * l.length) * 168 ≤ 140737488355328) : GCall Tryz.prog 36 2 (St.g [.c (.ptr 0 0), spsT l] [(0, .box 115 [.mp 1]), (1, .map 3 (rcE m))] 2) (St.r (.t [(false, [.im (.sl 3 ((addF m l).2.map iA))]), (false, [fl (.int .i64 0)])]) [(0, .box 115 [.mp 1]), (1, .map 3 (rcE (addF m l).1))] 2) := by
  have c64 : ∀ s ∈ l, PCall Tryz.prog 64 [spT s] (ft (.int .i64 0)) := fun s hs => by have := check64_c s (hz s hs); rwa [chkL_0 hc s hs] at this
  have c65 := set65_c c144 l
  have c66 := keysR_c (moreR l)
  have cW := winners_c c144
  have cW0 : PCall Tryz.prog 69 [ft (.slice none 0 0)] (spsT (winS [])) := PCall.conv (args' := [spsT []]) (cW []) (Al.cons (TLe.c CLe.nil) Al.nil) TLe.rfl
  have cE := equalF_c
  have cU := union_c c144 g122
  have cU0 : ∀ b : List Spn, ([] ++ b).length * 168 ≤ 140737488355328 → PCall Tryz.prog 67 [ft (.slice none 0 0), spsT b] (spsT (setS ([] ++ b))) := fun b h => PCall.conv (args' := [spsT [], spsT b]) (cU [] b h) (Al.cons (TLe.c CLe.nil) (Al.cons TLe.rfl Al.nil)) TLe.rfl
  obtain ⟨ts, hts⟩ : ∃ ts, ts = srtI ((moreR l).map (·.1)) := ⟨_, rfl⟩
  have htl : ts.length ≤ l.length := by
    rw [hts, srtI, List.length_mergeSort, List.length_map]
    exact Nat.le_trans (kmN_length _ _) (setS_le l)
  have htm : ∀ t ∈ ts, ∃ o, getK (moreR l) t = some o ∧ I64 t := fun t ht => by
    rw [hts, srtI, List.mem_mergeSort] at ht
    obtain ⟨s, hs, e⟩ := moreR_tr ht
    obtain ⟨y, hy, e2⟩ := List.mem_map.1 ht
    cases hg : getK (moreR l) t with
    | none => 
      exfalso
      have : ∀ m : RM, getK m t = none → ∀ y ∈ m, y.1 ≠ t := by
        intro m
        induction m with
        | nil => exact fun _ y hy => by cases hy
        | cons z r ih =>
          intro h y hy
          rw [getK] at h
          by_cases e : z.1 = t
          · rw [if_pos e] at h; cases h
          · rw [if_neg e] at h
            rcases List.mem_cons.1 hy with rfl | hy
            · exact e
            · exact ih h y hy
      exact this _ hg y hy e2
    | some o => exact ⟨o, rfl, e ▸ hI s hs⟩
  have c52 := sortedR_c c85 (moreR l) _ rfl (by rw [List.length_map]; have := kmN_length (setS l) (setS l).length; have := setS_le l; show (kmN (setS l) (setS l).length).length * 8 ≤ _; have : l.length ≤ (l.length + 1) * l.length := Nat.le_mul_of_pos_left _ (Nat.succ_pos _); omega)
  rw [← hts] at c52
  have hSI : ∀ s ∈ setS l, I64 s.tr := fun s hs => hI s (setS_mem hs)
  have hSl := setS_le l
  have haF : addF m l = ts.foldl (addS l) (m, []) := by rw [hts]; rfl
  rw [haF]
  have hnow : ∀ x B t, (∀ y ∈ x, y.2.length ≤ B) → (recs x t ++ recs (moreR l) t).length ≤ B + l.length ∧ (nowR l x t).length ≤ B + l.length := fun x B t h => nowR_le h t
  clear hz hc c144 c85 g122 hts haF hI
  obtain ⟨S, hS⟩ : ∃ S, S = setS l := ⟨_, rfl⟩
  have hmo : moreR l = kmN S S.length := by rw [hS]; rfl
  rw [← hS] at hSI hSl c65
  clear hS
  refine GCall.introG (nt := 90) (rs := [.tmp 4, .tmp 5]) Tryz.func36 rfl ⟨by kernel_rfl, by kernel_rfl, by kernel_rfl⟩ (by simp) ?_
  rintro ⟨P, w0, ok0, may, np, pblk⟩ rfl rfl
  simp only [go_sem]
  refine W.lenB 1 rfl tE88 fun hl hlb => ?_
  rw [List.length_map] at hlb
  rw [List.length_map, maxLen_is] at hl
  repeat' (first | refine W.seq fun K hK => ?_ | refine W.block ?_ | ((first | refine wR ?_ | refine wD ?_ | refine W.skip ?_ | refine W.exit ?_ | refine W.ret (Post.ret ?_) | refine aP ?_ | refine aF ?_ | refine aL ?_ | refine aU (hnn := by simp only [go_sem, reduceCtorEq, List.length_map]) ?_ | refine aM ?_ | refine aN ?_ | refine aR ?_); simp only [go_sem, reduceCtorEq, List.length_map]) | refine wT ?_ | refine wF ?_ | refine wC (fun h => ?_) (fun h => ?_) | refine iK ?_ | refine aI2 ?_ | (refine hK _ ?_; clear hK K) | clear hK K)
  refine W.loopF (T := fun i : Nat => { t := [(0, .c (.ptr 0 0)), (1, spsT l), (18, spsT l), (19, ft (.int .i64 l.length)), (20, ft (.int .i64 (i : Nat)))], h := [(0, .box 115 [.mp 1]), (1, .map 3 (rcE m))], nx := 2, ex := [], nt := 90 })
    (Inv := fun i => i ≤ l.length) (μ := fun i => l.length - i) (x0 := 0) ?_ (Nat.zero_le _) ?_
  · refine Fits.fit [(0, 0), (1, 1)] [0, 1, 18, 19, 20] 2 rfl rfl ?_
    simp only [go_sem, rnEs_rcE]
    exact Fits.rfl
  rintro i hi KL hKL
  by_cases hlt : i < l.length
  · obtain ⟨s, hx, hm, hd⟩ := drop_at hlt
    have e1 : decide ((i : Int) < l.length) = true := by simp; omega
    have hw := w64s i (by omega)
    have c1 := c64 s hm
    simp only [spT, spA, List.map] at c1
    have h1 : ((0 : Int) != 0) = false := by decide
    clear c64 c65 c66 cW cW0 cE cU cU0 c52
    repeat' (first | refine W.seq fun K hK => ?_ | refine W.block ?_ | ((first | refine wR ?_ | refine wD ?_ | refine W.skip ?_ | refine W.exit ?_ | refine W.ret (Post.ret ?_) | refine aP ?_ | refine aF ?_ | refine aL ?_ | refine aU (hnn := by simp only [go_sem, reduceCtorEq, List.getElem?_map, hx, spA, e1, h1, hw, List.length_map]) ?_ | refine aM ?_ | refine aN ?_ | refine aR ?_); simp only [go_sem, reduceCtorEq, List.getElem?_map, hx, spA, e1, h1, hw, List.length_map]) | refine wT ?_ | refine wF ?_ | refine wC (fun h => ?_) (fun h => ?_) | refine iK ?_ | refine aI2 ?_ | (refine hK _ ?_; clear hK K) | clear hK K)
    refine hKL.to (i + 1) (by omega) (by omega) (Fits.fit [(0, 0), (1, 1)] [0, 1, 18, 19, 20] 2 rfl rfl ?_)
    simp only [go_sem, rnEs_rcE]
    exact Fits.rfl
  obtain rfl : i = l.length := by omega
  have e1 : decide ((l.length : Int) < l.length) = false := by simp
  clear hKL c64
  repeat' (first | refine W.seq fun K hK => ?_ | refine W.block ?_ | ((first | refine wR ?_ | refine wD ?_ | refine W.skip ?_ | refine W.exit ?_ | refine W.ret (Post.ret ?_) | refine aP ?_ | refine aF ?_ | refine aL ?_ | refine aU (hnn := by simp only [go_sem, reduceCtorEq, e1, List.length_map]) ?_ | refine aM ?_ | refine aN ?_ | refine aR ?_); simp only [go_sem, reduceCtorEq, e1, List.length_map]) | refine wT ?_ | refine wF ?_ | refine wC (fun h => ?_) (fun h => ?_) | refine iK ?_ | refine aI2 ?_ | (refine hK _ ?_; clear hK K) | clear hK K)
  clear c65
  refine W.loopF (T := fun i : Nat => { t := [(0, .c (.ptr 0 0)), (9, .c (.mp 2)), (32, spsT S), (33, ft (.int .i64 S.length)), (34, ft (.int .i64 (i : Nat)))], h := [(0, .box 115 [.mp 1]), (1, .map 3 (rcE m)), (2, .map 3 (kE (kmN S i)))], nx := 3, ex := [], nt := 90 })
    (Inv := fun i => i ≤ S.length) (μ := fun i => S.length - i) (x0 := 0) ?_ (Nat.zero_le _) ?_
  · refine Fits.fit [(0, 0), (1, 1), (3, 2)] [0, 9, 32, 33, 34] 3 rfl rfl ?_
    simp only [go_sem, rnEs_rcE, kmN, List.take_zero, List.foldl_nil, kE, List.map_nil]
    exact Fits.rfl
  rintro i hi KL hKL
  by_cases hlt : i < S.length
  · obtain ⟨s, hx, hm, hd⟩ := drop_at hlt
    have e1 : decide ((i : Int) < S.length) = true := by simp; omega
    have e2 : decide (i < S.length) = true := by simp; omega
    have hw := w64s i (by omega)
    have hko := koI (hSI s hm)
    have hst := kmN_step hx
    have hks := kmN_keys S i
    have hkl := kmN_len S i
    have hSb : S.length * 168 ≤ 140737488355328 := by have : S.length * 168 ≤ l.length * 168 := Nat.mul_le_mul_right _ hSl; omega
    clear c66 cW cW0 cE cU cU0 c52 hmo hnow
    obtain ⟨m1, hm1⟩ : ∃ m, m = kmN S (i + 1) := ⟨_, rfl⟩
    rw [← hm1] at hst
    generalize kmN S i = mm at *
    repeat' (first | refine W.stop (id := 14) ?_ | refine W.seq fun K hK => ?_ | refine W.block ?_ | ((first | refine wR ?_ | refine wD ?_ | refine W.skip ?_ | refine W.exit ?_ | refine W.ret (Post.ret ?_) | refine aP ?_ | refine aF ?_ | refine aL ?_ | refine aU (hnn := by simp only [go_sem, reduceCtorEq, List.getElem?_map, hx, spA, e1, e2, hw, List.length_map]) ?_ | refine aM ?_ | refine aN ?_ | refine aR ?_); simp only [go_sem, reduceCtorEq, List.getElem?_map, hx, spA, e1, e2, hw, List.length_map]) | refine wT ?_ | refine wF ?_ | refine wC (fun h => ?_) (fun h => ?_) | refine iK ?_ | refine aI2 ?_ | (refine hK _ ?_; clear hK K) | clear hK K)
    refine Stop.out ?_
    refine W.fits (s' := { t := [(0, .c (.ptr 0 0)), (9, .c (.mp 2)), (11, .c (.ptr 3 0)), (32, spsT S), (33, ft (.int .i64 S.length)), (34, ft (.int .i64 (i : Nat)))], h := [(0, .box 115 [.mp 1]), (1, .map 3 (rcE m)), (2, .map 3 (kE mm)), (3, .box 88 ((spA s).map .im))], nx := 4, ex := [], nt := 90 }) ?_ ?_
    · refine Fits.fit [(0, 0), (1, 1), (2, 2), (6, 3)] [0, 9, 11, 32, 33, 34] 4 rfl rfl ?_
      simp only [go_sem, rnEs_kE, rnEs_rcE]
      exact Fits.rfl
    by_cases hex : ∃ y ∈ mm, y.1 = s.tr
    · obtain ⟨y, hym, hye⟩ := hex
      obtain ⟨j, hj⟩ := List.getElem?_of_mem hym
      have hat := putK_at hks hj hye
      have hei := kE_get hj
      rw [hye] at hei
      have hyl := hkl y hym
      have hget := fun c => mget_sE (c := c) (kE_nodup hks) hei
      have hput := fun c d => mput_sE (c := c) (d := d) (kE_nodup hks) hei
      have hfin := kE_set hj (y.2 ++ [s])
      rw [hat] at hst
      simp only [spA, List.map]
      refine W.fits (Fits.unf 2 j 0 200 (c := .orow 88 (y.2.map spA)) rfl rfl (by simp only [go_sem, hei]) rfl rfl Fits.rfl) ?_
      simp only [go_sem]
      have hyb : (y.2.length + 1) * 168 ≤ 140737488355328 := by
        have : (y.2.length + 1) * 168 ≤ (S.length) * 168 := Nat.mul_le_mul_right _ (by omega)
        omega
      repeat' (first | refine W.seq fun K hK => ?_ | refine W.block ?_ | ((first | refine wR ?_ | refine wD ?_ | refine W.skip ?_ | refine W.exit ?_ | refine W.ret (Post.ret ?_) | refine aP ?_ | refine aF ?_ | refine aL ?_ | refine aU (hnn := by simp only [go_sem, reduceCtorEq, hget, hput, hw, imR_len, imL, List.length_map, spA]) ?_ | refine aM ?_ | refine aN ?_ | refine aR ?_); simp only [go_sem, reduceCtorEq, hget, hput, hw, imR_len, imL, List.length_map, spA]) | refine wT ?_ | refine wF ?_ | refine wC (fun h => ?_) (fun h => ?_) | refine iK ?_ | refine aI2 ?_ | (refine hK _ ?_; clear hK K) | clear hK K)
      refine hKL.to (i + 1) (by omega) (by omega) ?_
      have hrow : imR (List.map spA y.2) ++ [(spA s).map .im] = imR ((y.2 ++ [s]).map spA) := (snocS y.2 s).symm
      simp only [spA, List.map] at hrow
      simp only [hrow]
      refine Fits.fold 2 j 0 210 (.orow 88 ((y.2 ++ [s]).map spA)) rfl rfl rfl (by simp only [go_sem, Go.Exe.setE_set _ hei, List.getElem?_set_self (List.getElem?_eq_some_iff.1 hei).1]) (by decide) ?_
      refine Fits.fit [(0, 0), (1, 1), (2, 2)] [0, 9, 32, 33, 34] 3 rfl rfl ?_
      simp only [go_sem, sE_sE, hfin, ← hst, rnEs_kE, rnEs_rcE, hm1]
      exact Fits.rfl
    · have hno : ∀ y ∈ mm, y.1 ≠ s.tr := fun y hy e => hex ⟨y, hy, e⟩
      rw [putK_none hno] at hst
      have hget : mget (Value.int .i64 s.tr) (kE mm) = none := mget_none (kE_no hno)
      have hput : ∀ y, mput (Value.int .i64 s.tr) y (kE mm) = kE mm ++ [(Value.int .i64 s.tr, y)] := fun y => mput_none (kE_no hno)
      simp only [spA, List.map]
      repeat' (first | refine W.seq fun K hK => ?_ | refine W.block ?_ | ((first | refine wR ?_ | refine wD ?_ | refine W.skip ?_ | refine W.exit ?_ | refine W.ret (Post.ret ?_) | refine aP ?_ | refine aF ?_ | refine aL ?_ | refine aU (hnn := by simp only [go_sem, reduceCtorEq, hget, hput, hw, imR_len, imL, List.length_map, spA]) ?_ | refine aM ?_ | refine aN ?_ | refine aR ?_); simp only [go_sem, reduceCtorEq, hget, hput, hw, imR_len, imL, List.length_map, spA]) | refine wT ?_ | refine wF ?_ | refine wC (fun h => ?_) (fun h => ?_) | refine iK ?_ | refine aI2 ?_ | (refine hK _ ?_; clear hK K) | clear hK K)
      have hfin := kE_snoc mm s.tr 13 [s]
      simp only [List.map] at hfin
      refine hKL.to (i + 1) (by omega) (by omega) ?_
      refine Fits.fold 2 mm.length 0 13 (.orow 88 ([s].map spA)) rfl rfl rfl (by simp [Obj.slot, kE, refCell]) (by decide) ?_
      simp only [go_sem, hfin]
      refine Fits.fit [(0, 0), (1, 1), (2, 2)] [0, 9, 32, 33, 34] 3 rfl rfl ?_
      simp only [go_sem, ← hst, rnEs_kE, rnEs_rcE, hm1]
      exact Fits.rfl
  obtain rfl : i = S.length := by omega
  have e1 : decide ((S.length : Int) < S.length) = false := by simp
  rw [← hmo]
  clear hKL
  repeat' (first | refine W.stop (id := 17) ?_ | refine W.seq fun K hK => ?_ | refine W.block ?_ | ((first | refine wR ?_ | refine wD ?_ | refine W.skip ?_ | refine W.exit ?_ | refine W.ret (Post.ret ?_) | refine aP ?_ | refine aF ?_ | refine aL ?_ | refine aU (hnn := by simp only [go_sem, reduceCtorEq, e1]) ?_ | refine aM ?_ | refine aN ?_ | refine aR ?_); simp only [go_sem, reduceCtorEq, e1]) | refine wT ?_ | refine wF ?_ | refine wC (fun h => ?_) (fun h => ?_) | refine iK ?_ | refine aI2 ?_ | (refine hK _ ?_; clear hK K) | clear hK K)
  refine Stop.out ?_
  refine W.fits (Fits.freezeM 2 rfl (kE_close _) Fits.rfl) ?_
  simp only [go_sem]
  repeat' (first | refine W.seq fun K hK => ?_ | refine W.block ?_ | ((first | refine wR ?_ | refine wD ?_ | refine W.skip ?_ | refine W.exit ?_ | refine W.ret (Post.ret ?_) | refine aP ?_ | refine aF ?_ | refine aL ?_ | refine aU ?_ | refine aM ?_ | refine aN ?_ | refine aR ?_); simp only [go_sem, reduceCtorEq]) | refine wT ?_ | refine wF ?_ | refine wC (fun h => ?_) (fun h => ?_) | refine iK ?_ | refine aI2 ?_ | (refine hK _ ?_; clear hK K) | clear hK K)
  clear c66
  refine AX.gcall [] rfl rfl (c52) (by simp only [go_sem, reduceCtorEq, List.length_map, imR_len]) (by simp only [go_sem, reduceCtorEq, List.length_map, imR_len]) rfl rfl (by simp only [go_sem, Obj.owns]) rfl (by simp only [go_sem, Obj.owns]) rfl rfl ?_
  simp only [go_sem, reduceCtorEq, List.length_map, imR_len]
  repeat' (first | refine W.seq fun K hK => ?_ | refine W.block ?_ | ((first | refine wR ?_ | refine wD ?_ | refine W.skip ?_ | refine W.exit ?_ | refine W.ret (Post.ret ?_) | refine aP ?_ | refine aF ?_ | refine aL ?_ | refine aU (hnn := by simp only [go_sem, reduceCtorEq, List.length_map, imR_len]) ?_ | refine aM ?_ | refine aN ?_ | refine aR ?_); simp only [go_sem, reduceCtorEq, List.length_map, imR_len]) | refine wT ?_ | refine wF ?_ | refine wC (fun h => ?_) (fun h => ?_) | refine iK ?_ | refine aI2 ?_ | (refine hK _ ?_; clear hK K) | clear hK K)
  clear c52
  refine W.loopF (T := fun j : Nat => { t := [(0, .c (.ptr 0 0)), (9, .c (.mp 2)), (12, .c (.ref 4)), (51, .c (.ref 3)), (52, ft (.int .i64 ts.length)), (53, ft (.int .i64 (j : Nat)))], h := [(0, .box 115 [.mp 1]), (1, .map 3 (rcE ((ts.take j).foldl (addS l) (m, [])).1)), (2, .fro (.mp 3 (kEA (moreR l)))), (3, .row 3 (imR (ts.map iA))), (4, .row 3 (imR (((ts.take j).foldl (addS l) (m, [])).2.map iA)))], nx := 5, ex := [], nt := 90 })
    (Inv := fun j => j ≤ ts.length ∧ (∀ y ∈ ((ts.take j).foldl (addS l) (m, [])).1, y.2.length ≤ B + j * l.length) ∧ ((ts.take j).foldl (addS l) (m, [])).2.length ≤ j) (μ := fun j => ts.length - j) (x0 := 0) ?_ ⟨Nat.zero_le _, by simpa using hB, by simp⟩ ?_
  · refine Fits.adopt 12 900 3 rfl rfl rfl tE3 rfl ?_
    refine Fits.fit [(0, 0), (1, 1), (2, 2), (7, 3), (900, 4)] [0, 9, 12, 51, 52, 53] 5 rfl rfl ?_
    simp only [go_sem, rnEs_rcE, List.take_zero, List.foldl_nil, List.map_nil, imR_nil]
    exact Fits.rfl
  rintro j ⟨hj, hbd, hol⟩ KL hKL
  by_cases hlt : j < ts.length
  · obtain ⟨t, hx, hm, hd⟩ := drop_at hlt
    have e1 : decide ((j : Int) < ts.length) = true := by simp; omega
    have hw := w64s j (by have : l.length ≤ (l.length + 1) * l.length := Nat.le_mul_of_pos_left _ (Nat.succ_pos _); omega)
    have e2 : decide (j < ts.length) = true := by simp [hlt]
    obtain ⟨b, hgb, hIt⟩ := htm t hm
    have hko := koI hIt
    have hgm : mget (Value.int .i64 t) (froE (kEA (moreR l))) = some (false, [.im (.sl 88 (b.map spA))]) := by rw [kEA_get, hgb]; rfl
    have hr2 : recs (moreR l) t = b := chg_some hgb
    have htk : (ts.take (j + 1)).foldl (addS l) (m, []) = addS l ((ts.take j).foldl (addS l) (m, [])) t := by rw [List.take_add_one, hx]; simp
    obtain ⟨xo, hxo⟩ : ∃ xo, xo = (ts.take j).foldl (addS l) (m, []) := ⟨_, rfl⟩
    rw [← hxo] at hbd hol htk ⊢
    obtain ⟨x, out⟩ := xo
    dsimp only at hbd hol
    have hlen := hnow x _ t hbd
    have hbB : (B + j * l.length + l.length) * 168 ≤ 140737488355328 := by
      refine Nat.le_trans (Nat.mul_le_mul_right _ ?_) hb
      have : (j + 1) * l.length ≤ (l.length + 1) * l.length := Nat.mul_le_mul_right _ (by omega)
      rw [Nat.succ_mul] at this
      omega
    have hbd2 : ∀ y ∈ (addS l (x, out) t).1, y.2.length ≤ B + (j + 1) * l.length := fun y hy => by
      rw [Nat.succ_mul, ← Nat.add_assoc]
      rcases putR_mem hy with h | h
      · have := hbd y h; omega
      · rw [h]; exact hlen.2
    have hol2 : (addS l (x, out) t).2.length ≤ j + 1 := by
      unfold addS
      dsimp only
      split
      · rw [List.length_append]; simp; omega
      · omega
    have hKL2 := fun (s' : St) h => hKL.to (s' := s') (j + 1) ⟨by omega, by rw [htk]; exact hbd2, by rw [htk]; exact hol2⟩ (by omega) h
    rw [htk] at hKL2
    unfold addS at hKL2
    dsimp only at hKL2
    clear hKL htk hxo hbd2 hol2
    have hl1 : (recs x t ++ recs (moreR l) t).length * 168 ≤ 140737488355328 := Nat.le_trans (Nat.mul_le_mul_right _ hlen.1) hbB
    rw [hr2] at hl1
    cases hg : getK x t with
    | some o =>
      rw [chg_some hg] at hl1
      have hr1 : recs x t = o := chg_some hg
      have hn : nowR l x t = setS (o ++ b) := by unfold nowR; rw [hr1, hr2]
      have hcg : chgR l x t = !eqSs (winS (setS (o ++ b))) (winS o) := by unfold chgR; rw [hn, hr1]
      rw [hr1, hr2] at hlen
      rw [hn] at hKL2 hlen
      rw [hcg] at hKL2
      have kU := cU o b hl1
      have kW := cW (setS (o ++ b))
      have kW2 := cW o
      have kE := cE (winS (setS (o ++ b))) (winS o)
      have hput := rcE_put t (setS (o ++ b)) x
      have hget : mget (Value.int .i64 t) (rcE x) = some (false, [.im (.sl 88 (o.map spA))]) := by rw [rcE_get, hg]; rfl
      clear cU cU0 cW cW0 cE hg hn hcg hr1 hr2
      generalize setS (o ++ b) = now at *
      cases hv : eqSs (winS now) (winS o) with
      | true =>
        rw [hv] at kE hKL2
        repeat' (first | refine W.seq fun K hK => ?_ | refine W.block ?_ | ((first | refine wR ?_ | refine wD ?_ | refine W.skip ?_ | refine W.exit ?_ | refine W.ret (Post.ret ?_) | refine aP ?_ | refine aF ?_ | refine aL ?_ | refine aU (hnn := by simp only [go_sem, reduceCtorEq, List.getElem?_map, hx, iA, e1, e2, hget, hgm, hput, hko, hw, imR_len, imR_get, List.length_map, imL]) ?_ | refine aM ?_ | refine aN ?_ | refine aR ?_); simp only [go_sem, reduceCtorEq, List.getElem?_map, hx, iA, e1, e2, hget, hgm, hput, hko, hw, imR_len, imR_get, List.length_map, imL]) | refine wT ?_ | refine wF ?_ | refine wC (fun h => ?_) (fun h => ?_) | refine iK ?_ | refine aI2 ?_ | (refine hK _ ?_; clear hK K) | clear hK K)
        refine hKL2 _ (Fits.fit [(0, 0), (1, 1), (2, 2), (3, 3), (4, 4)] [0, 9, 12, 51, 52, 53] 5 rfl rfl ?_)
        simp only [go_sem, rnEs_rcE]
        exact Fits.rfl
      | false =>
        rw [hv] at kE hKL2
        repeat' (first | refine W.seq fun K hK => ?_ | refine W.block ?_ | ((first | refine wR ?_ | refine wD ?_ | refine W.skip ?_ | refine W.exit ?_ | refine W.ret (Post.ret ?_) | refine aP ?_ | refine aF ?_ | refine aL ?_ | refine aU (hnn := by simp only [go_sem, reduceCtorEq, List.getElem?_map, hx, iA, e1, e2, hget, hgm, hput, hko, hw, imR_len, imR_get, List.length_map, imL]) ?_ | refine aM ?_ | refine aN ?_ | refine aR ?_); simp only [go_sem, reduceCtorEq, List.getElem?_map, hx, iA, e1, e2, hget, hgm, hput, hko, hw, imR_len, imR_get, List.length_map, imL]) | refine wT ?_ | refine wF ?_ | refine wC (fun h => ?_) (fun h => ?_) | refine iK ?_ | refine aI2 ?_ | (refine hK _ ?_; clear hK K) | clear hK K)
        refine hKL2 _ (Fits.fit [(0, 0), (1, 1), (2, 2), (3, 3), (34, 4)] [0, 9, 12, 51, 52, 53] 5 rfl rfl ?_)
        simp only [go_sem, rnEs_rcE, imR_snocI]
        exact Fits.rfl
    | none =>
      rw [chg_none hg] at hl1
      have hr1 : recs x t = [] := chg_none hg
      have hn : nowR l x t = setS ([] ++ b) := by unfold nowR; rw [hr1, hr2]
      have hcg : chgR l x t = !eqSs (winS (setS ([] ++ b))) (winS []) := by unfold chgR; rw [hn, hr1]
      rw [hr1, hr2] at hlen
      rw [hn] at hKL2 hlen
      rw [hcg] at hKL2
      have kU := cU0 b hl1
      have kW := cW (setS ([] ++ b))
      have kW2 := cW0
      have kE := cE (winS (setS ([] ++ b))) (winS [])
      have hput := rcE_put t (setS ([] ++ b)) x
      have hget : mget (Value.int .i64 t) (rcE x) = none := by rw [rcE_get, hg]; rfl
      clear cU cU0 cW cW0 cE hg hn hcg hr1 hr2
      generalize setS ([] ++ b) = now at *
      cases hv : eqSs (winS now) (winS []) with
      | true =>
        rw [hv] at kE hKL2
        repeat' (first | refine W.seq fun K hK => ?_ | refine W.block ?_ | ((first | refine wR ?_ | refine wD ?_ | refine W.skip ?_ | refine W.exit ?_ | refine W.ret (Post.ret ?_) | refine aP ?_ | refine aF ?_ | refine aL ?_ | refine aU (hnn := by simp only [go_sem, reduceCtorEq, List.getElem?_map, hx, iA, e1, e2, hget, hgm, hput, hko, hw, imR_len, imR_get, List.length_map, imL]) ?_ | refine aM ?_ | refine aN ?_ | refine aR ?_); simp only [go_sem, reduceCtorEq, List.getElem?_map, hx, iA, e1, e2, hget, hgm, hput, hko, hw, imR_len, imR_get, List.length_map, imL]) | refine wT ?_ | refine wF ?_ | refine wC (fun h => ?_) (fun h => ?_) | refine iK ?_ | refine aI2 ?_ | (refine hK _ ?_; clear hK K) | clear hK K)
        refine hKL2 _ (Fits.fit [(0, 0), (1, 1), (2, 2), (3, 3), (4, 4)] [0, 9, 12, 51, 52, 53] 5 rfl rfl ?_)
        simp only [go_sem, rnEs_rcE]
        exact Fits.rfl
      | false =>
        rw [hv] at kE hKL2
        repeat' (first | refine W.seq fun K hK => ?_ | refine W.block ?_ | ((first | refine wR ?_ | refine wD ?_ | refine W.skip ?_ | refine W.exit ?_ | refine W.ret (Post.ret ?_) | refine aP ?_ | refine aF ?_ | refine aL ?_ | refine aU (hnn := by simp only [go_sem, reduceCtorEq, List.getElem?_map, hx, iA, e1, e2, hget, hgm, hput, hko, hw, imR_len, imR_get, List.length_map, imL]) ?_ | refine aM ?_ | refine aN ?_ | refine aR ?_); simp only [go_sem, reduceCtorEq, List.getElem?_map, hx, iA, e1, e2, hget, hgm, hput, hko, hw, imR_len, imR_get, List.length_map, imL]) | refine wT ?_ | refine wF ?_ | refine wC (fun h => ?_) (fun h => ?_) | refine iK ?_ | refine aI2 ?_ | (refine hK _ ?_; clear hK K) | clear hK K)
        refine hKL2 _ (Fits.fit [(0, 0), (1, 1), (2, 2), (3, 3), (34, 4)] [0, 9, 12, 51, 52, 53] 5 rfl rfl ?_)
        simp only [go_sem, rnEs_rcE, imR_snocI]
        exact Fits.rfl
  obtain rfl : j = ts.length := by omega
  have e1 : decide ((ts.length : Int) < ts.length) = false := by simp
  rw [List.take_length] at hbd hol ⊢
  generalize ts.foldl (addS l) (m, []) = xo at *
  clear hKL cU cU0 cW cW0 cE
  repeat' (first | refine W.seq fun K hK => ?_ | refine W.block ?_ | ((first | refine wR ?_ | refine wD ?_ | refine W.skip ?_ | refine W.exit ?_ | refine W.ret (Post.ret ?_) | refine aP ?_ | refine aF ?_ | refine aL ?_ | refine aU (hnn := by simp only [go_sem, reduceCtorEq, e1]) ?_ | refine aM ?_ | refine aN ?_ | refine aR ?_); simp only [go_sem, reduceCtorEq, e1]) | refine wT ?_ | refine wF ?_ | refine wC (fun h => ?_) (fun h => ?_) | refine iK ?_ | refine aI2 ?_ | (refine hK _ ?_; clear hK K) | clear hK K)
  refine W.ret (PostG.ret (Fits.freeze 4 rfl (unim_im _) (Fits.seeT 4 4 rfl (.inl rfl) rfl (Fits.fit [(0, 0), (1, 1)] [4, 5] 2 rfl rfl Fits.rfl))) rfl rfl ?_)
  simp only [St.r, go_sem, rnEs_rcE]
end Go.Proofs.YtigenjeealkdlaaGreat
namespace Go.Proofs.YtigenjeealkdlaaGreat
open Go.RowKit Go.Exe
/-! ### lists of ints -/
attribute [local irreducible] W AX Run RunD AStep AOp AOpX AStB AStH AStG Fits PCall GCall PostG Post Stop
theorem indexI_c (l : List Int) (n : Int) : PCall Tryz.prog 93 [intsT l, ft (.int .i64 n)] (ft (.int .i64 (match l.findIdx? (fun x => n == x) with | some i => (i : Nat) | none => -1))) := by
  refine PCall.intro (nt := 19) (rs := [.tmp 4]) Tryz.func93 rfl ⟨by kernel_rfl, by kernel_rfl, by kernel_rfl⟩ (by simp) ?_
  rintro ⟨P, w0, ok0, may, np, pblk⟩ rfl rfl
  refine W.lenB 0 rfl tE3 fun hl0 hl1 => ?_
  rw [List.length_map] at hl1
  repeat' (first | refine W.seq fun K hK => ?_ | refine W.block ?_ | ((first | refine wR ?_ | refine wD ?_ | refine W.skip ?_ | refine W.exit ?_ | refine W.ret (Post.ret ?_) | refine aP ?_ | refine aF ?_); simp only [go_sem, reduceCtorEq]) | refine wT ?_ | refine wF ?_ | refine wC (fun h => ?_) (fun h => ?_) | refine iK ?_ | refine aI2 ?_ | (refine hK _ ?_; clear hK K) | clear hK K)
  refine W.loopF (T := fun i : Nat => { t := [(0, intsT l), (1, ft (.int .i64 n)), (6, intsT l), (7, ft (.int .i64 l.length)), (8, ft (.int .i64 (i : Nat)))], h := [], nx := 0, ex := [], nt := 19 })
    (Inv := fun i => i ≤ l.length ∧ ∀ x ∈ l.take i, (n == x) = false) (μ := fun i => l.length - i) (x0 := 0) (Fits.fit [] [0, 1, 6, 7, 8] 0 rfl rfl ?_) ⟨Nat.zero_le _, by simp⟩ ?_
  · simp only [go_sem, List.length_map]
    exact Fits.rfl
  rintro i ⟨hi, hinv⟩ KL hKL
  by_cases hlt : i < l.length
  · obtain ⟨x, hx, hm, hd⟩ := drop_at hlt
    have e1 : decide ((i : Int) < l.length) = true := by simp; omega
    have hw := w64s i (by omega)
    cases hc : n == x
    · repeat' (first | refine W.seq fun K hK => ?_ | refine W.block ?_ | ((first | refine wR ?_ | refine wD ?_ | refine W.skip ?_ | refine W.exit ?_ | refine W.ret (Post.ret ?_) | refine aP ?_ | refine aF ?_); simp only [go_sem, reduceCtorEq, List.getElem?_map, hx, iA, e1, hw, hc]) | refine wT ?_ | refine wF ?_ | refine wC (fun h => ?_) (fun h => ?_) | refine iK ?_ | refine aI2 ?_ | (refine hK _ ?_; clear hK K) | clear hK K)
      refine hKL.to (i + 1) ⟨by omega, fun y hy => ?_⟩ (by omega) (Fits.fit [] [0, 1, 6, 7, 8] 0 rfl rfl ?_)
      · rw [List.take_add_one, hx] at hy
        rcases List.mem_append.1 hy with hy | hy
        · exact hinv y hy
        · simp at hy; subst hy; exact hc
      · simp only [go_sem]
        exact Fits.rfl
    · have hf : l.findIdx? (fun x => n == x) = some i := by
        rw [List.findIdx?_eq_some_iff_getElem]
        obtain ⟨h1, h2⟩ := List.getElem?_eq_some_iff.1 hx
        refine ⟨h1, by rw [h2]; exact hc, fun j hj => ?_⟩
        have := hinv l[j] (List.mem_of_getElem? (i := j) (by rw [List.getElem?_take, if_pos hj, List.getElem?_eq_getElem]))
        simp [this]
      clear hKL
      repeat' (first | refine W.seq fun K hK => ?_ | refine W.block ?_ | ((first | refine wR ?_ | refine wD ?_ | refine W.skip ?_ | refine W.exit ?_ | refine W.ret (Post.ret ?_) | refine aP ?_ | refine aF ?_); simp only [go_sem, reduceCtorEq, List.getElem?_map, hx, iA, e1, hw, hc, hf]) | refine wT ?_ | refine wF ?_ | refine wC (fun h => ?_) (fun h => ?_) | refine iK ?_ | refine aI2 ?_ | (refine hK _ ?_; clear hK K) | clear hK K)
  obtain rfl : i = l.length := by omega
  rw [List.take_length] at hinv
  have e1 : decide ((l.length : Int) < l.length) = false := by simp
  have hf : l.findIdx? (fun x => n == x) = none := by
    rw [List.findIdx?_eq_none_iff]
    exact hinv
  clear hKL
  repeat' (first | refine W.seq fun K hK => ?_ | refine W.block ?_ | ((first | refine wR ?_ | refine wD ?_ | refine W.skip ?_ | refine W.exit ?_ | refine W.ret (Post.ret ?_) | refine aP ?_ | refine aF ?_); simp only [go_sem, reduceCtorEq, e1, hf]) | refine wT ?_ | refine wF ?_ | refine wC (fun h => ?_) (fun h => ?_) | refine iK ?_ | refine aI2 ?_ | (refine hK _ ?_; clear hK K) | clear hK K)
theorem contains_c (l : List Int) (n : Int) : PCall Tryz.prog 59 [intsT l, ft (.int .i64 n)] (ft (.bool (l.contains n))) := by
  have c1 := indexI_c l n
  refine PCall.intro (nt := 9) (rs := [.tmp 4]) Tryz.func59 rfl ⟨by kernel_rfl, by kernel_rfl, by kernel_rfl⟩ (by simp) ?_
  rintro ⟨P, w0, ok0, may, np, pblk⟩ rfl rfl
  cases h : l.findIdx? (fun x => n == x) with
  | none =>
    rw [h] at c1
    rw [List.findIdx?_eq_none_iff] at h
    have h2 : l.contains n = false := by
      rw [Bool.eq_false_iff]
      intro hc
      have := h n (List.contains_iff_mem.1 hc)
      simp at this
    have h3 : decide ((-1 : Int) ≥ 0) = false := by decide
    repeat' (first | refine W.seq fun K hK => ?_ | refine W.block ?_ | ((first | refine wR ?_ | refine wD ?_ | refine W.skip ?_ | refine W.exit ?_ | refine W.ret (Post.ret ?_) | refine aP ?_ | refine aF ?_); simp only [go_sem, reduceCtorEq, h2, h3]) | refine wT ?_ | refine wF ?_ | refine wC (fun h => ?_) (fun h => ?_) | refine iK ?_ | refine aI2 ?_ | (refine hK _ ?_; clear hK K) | clear hK K)
  | some i =>
    rw [h] at c1
    rw [List.findIdx?_eq_some_iff_getElem] at h
    obtain ⟨hi, hp, _⟩ := h
    have h2 : l.contains n = true := by
      rw [List.contains_iff_mem]
      simp at hp
      rw [hp]
      exact List.getElem_mem _
    have h3 : decide ((i : Int) ≥ 0) = true := by simp
    repeat' (first | refine W.seq fun K hK => ?_ | refine W.block ?_ | ((first | refine wR ?_ | refine wD ?_ | refine W.skip ?_ | refine W.exit ?_ | refine W.ret (Post.ret ?_) | refine aP ?_ | refine aF ?_); simp only [go_sem, reduceCtorEq, h2, h3]) | refine wT ?_ | refine wF ?_ | refine wC (fun h => ?_) (fun h => ?_) | refine iK ?_ | refine aI2 ?_ | (refine hK _ ?_; clear hK K) | clear hK K)

theorem same_c (l m : List Int) : PCall Tryz.prog 23 [intsT l, intsT m] (ft (.bool (decide (l = m)))) := by
  refine PCall.intro (nt := 26) (rs := [.tmp 4]) Tryz.func23 rfl ⟨by kernel_rfl, by kernel_rfl, by kernel_rfl⟩ (by simp) ?_
  rintro ⟨P, w0, ok0, may, np, pblk⟩ rfl rfl
  refine W.lenB 0 rfl tE3 fun hl0 hl1 => ?_
  rw [List.length_map] at hl1
  by_cases hne : l.length = m.length
  · have e0 : ((l.length : Int) != m.length) = false := by simp [hne]
    repeat' (first | refine W.seq fun K hK => ?_ | refine W.block ?_ | ((first | refine wR ?_ | refine wD ?_ | refine W.skip ?_ | refine W.exit ?_ | refine W.ret (Post.ret ?_) | refine aP ?_ | refine aF ?_); simp only [go_sem, reduceCtorEq, e0, List.length_map]) | refine wT ?_ | refine wF ?_ | refine wC (fun h => ?_) (fun h => ?_) | refine iK ?_ | refine aI2 ?_ | (refine hK _ ?_; clear hK K) | clear hK K)
    refine W.loopF (T := fun i : Nat => { t := [(0, intsT l), (1, intsT m), (5, ft (.int .i64 (i : Nat)))], h := [], nx := 0, ex := [], nt := 26 })
      (Inv := fun i => i ≤ l.length ∧ decide (l = m) = decide (l.drop i = m.drop i)) (μ := fun i => l.length - i) (x0 := 0) (Fits.fit [] [0, 1, 5] 0 rfl rfl ?_) ⟨Nat.zero_le _, rfl⟩ ?_
    · simp only [go_sem]
      exact Fits.rfl
    rintro i ⟨hi, hinv⟩ KL hKL
    by_cases hlt : i < l.length
    · obtain ⟨x, hx, hm, hd⟩ := drop_at hlt
      obtain ⟨y, hy, hm', hd'⟩ := drop_at (show i < m.length by omega)
      have e1 : decide ((i : Int) < l.length) = true := by simp; omega
      have hw := w64s i (by omega)
      rw [hd, hd'] at hinv
      cases hc : (x != y) with
      | true =>
        have h2 : decide (l = m) = false := by rw [hinv, decide_eq_false_iff_not]; simp at hc; simp [hc]
        repeat' (first | refine W.seq fun K hK => ?_ | refine W.block ?_ | ((first | refine wR ?_ | refine wD ?_ | refine W.skip ?_ | refine W.exit ?_ | refine W.ret (Post.ret ?_) | refine aP ?_ | refine aF ?_); simp only [go_sem, reduceCtorEq, List.getElem?_map, hx, hy, iA, e1, hw, hc, List.length_map]) | refine wT ?_ | refine wF ?_ | refine wC (fun h => ?_) (fun h => ?_) | refine iK ?_ | refine aI2 ?_ | (refine hK _ ?_; clear hK K) | clear hK K)
        rw [h2]
      | false =>
        have h2 : x = y := by simpa using hc
        repeat' (first | refine W.seq fun K hK => ?_ | refine W.block ?_ | ((first | refine wR ?_ | refine wD ?_ | refine W.skip ?_ | refine W.exit ?_ | refine W.ret (Post.ret ?_) | refine aP ?_ | refine aF ?_); simp only [go_sem, reduceCtorEq, List.getElem?_map, hx, hy, iA, e1, hw, hc, List.length_map]) | refine wT ?_ | refine wF ?_ | refine wC (fun h => ?_) (fun h => ?_) | refine iK ?_ | refine aI2 ?_ | (refine hK _ ?_; clear hK K) | clear hK K)
        refine hKL.to (i + 1) ⟨by omega, by rw [hinv]; simp [h2]⟩ (by omega) (Fits.fit [] [0, 1, 5] 0 rfl rfl ?_)
        simp only [go_sem]
        exact Fits.rfl
    · obtain rfl : i = l.length := by omega
      have e1 : decide ((l.length : Int) < l.length) = false := by simp
      rw [List.drop_of_length_le (Nat.le_refl _), hne, List.drop_of_length_le (Nat.le_refl _)] at hinv
      clear hKL
      repeat' (first | refine W.seq fun K hK => ?_ | refine W.block ?_ | ((first | refine wR ?_ | refine wD ?_ | refine W.skip ?_ | refine W.exit ?_ | refine W.ret (Post.ret ?_) | refine aP ?_ | refine aF ?_); simp only [go_sem, reduceCtorEq, e1, List.length_map]) | refine wT ?_ | refine wF ?_ | refine wC (fun h => ?_) (fun h => ?_) | refine iK ?_ | refine aI2 ?_ | (refine hK _ ?_; clear hK K) | clear hK K)
      rw [hinv]; rfl
  · have e0 : ((l.length : Int) != m.length) = true := by simp; omega
    have h2 : decide (l = m) = false := by rw [decide_eq_false_iff_not]; exact fun e => hne (by rw [e])
    repeat' (first | refine W.seq fun K hK => ?_ | refine W.block ?_ | ((first | refine wR ?_ | refine wD ?_ | refine W.skip ?_ | refine W.exit ?_ | refine W.ret (Post.ret ?_) | refine aP ?_ | refine aF ?_); simp only [go_sem, reduceCtorEq, e0, List.length_map]) | refine wT ?_ | refine wF ?_ | refine wC (fun h => ?_) (fun h => ?_) | refine iK ?_ | refine aI2 ?_ | (refine hK _ ?_; clear hK K) | clear hK K)
    rw [h2]
/-! ### the ancestors -/
def parOf (nds : List Nd) (id : Int) : Option Int := match nds[fnd nds id]? with
  | some n => if n.id = id then some n.pa else none
  | none => none
def ancF (nds : List Nd) : Nat → Int → List Int → List Int
  | 0, _, out => out
  | k + 1, id, out => match parOf nds id with
    | none => out
    | some p => if p = 0 ∨ p ∈ out then out else match parOf nds p with
      | none => out
      | some _ => ancF nds k p (out ++ [p])
def ancT (nds : List Nd) (id : Int) : List Int := ancF nds (nds.length + 1) id []
theorem parOf_B (nds : List Nd) (id : Int) : fndB nds id = (parOf nds id).isSome := by
  unfold fndB parOf
  cases nds[fnd nds id]? with
  | none => rfl
  | some n => by_cases h : n.id = id <;> simp [h]
theorem parOf_at {nds : List Nd} {id p : Int} (h : parOf nds id = some p) : ∃ n, nds[fnd nds id]? = some n ∧ n.id = id ∧ n.pa = p := by
  unfold parOf at h
  cases hx : nds[fnd nds id]? with
  | none => rw [hx] at h; cases h
  | some n =>
    rw [hx] at h
    by_cases e : n.id = id
    · simp only [if_pos e, Option.some.injEq] at h
      exact ⟨n, rfl, e, h⟩
    · simp only [if_neg e] at h; cases h
theorem OkS.snocP {nds : List Nd} {seen : List Int} (h : OkS nds seen) {p q : Int} (hc : parOf nds p = some q) (hn : p ∉ seen) : OkS nds (seen ++ [p]) := by
  refine ⟨List.nodup_append.2 ⟨h.nd, by simp, fun x hx y hy => by simp at hy; subst hy; exact fun e => hn (e ▸ hx)⟩, fun x hx => ?_⟩
  rcases List.mem_append.1 hx with hx | hx
  · exact h.sub x hx
  · simp at hx
    subst hx
    obtain ⟨n, hm, e, _⟩ := parOf_at hc
    exact List.mem_map.2 ⟨n, List.mem_of_getElem? hm, e⟩
theorem ancestors_c (t : Tr) (hs : t.nds.Pairwise fun a b => a.id < b.id) (id : Int) : PCall Tryz.prog 25 [trT t, ft (.int .i64 id)] (intsT (ancT t.nds id)) := by
  have ci := fun i => index_c t i hs
  have cc := contains_c
  simp only [trT, trA, List.map] at ci ⊢
  have c1 := ci id
  refine PCall.intro (nt := 41) (rs := [.tmp 4]) Tryz.func25 rfl ⟨by kernel_rfl, by kernel_rfl, by kernel_rfl⟩ (by simp) ?_
  rintro ⟨P, w0, ok0, may, np, pblk⟩ rfl rfl
  refine W.fits (s' := { t := [(0, .g [fl (.int .i64 t.tr), .im (.sl 35 (t.nds.map ndA)), .im (.sl 3 (t.roots.map iA)), .im (.sl 3 (t.orph.map iA)), .im (.sl 3 (t.cyc.map iA)), .im (.sl 3 (t.miss.map iA))]), (1, ft (.int .i64 id))], h := [], nx := 0, ex := [], nt := 41 }) Fits.rfl ?_
  repeat' (first | refine W.seq fun K hK => ?_ | refine W.block ?_ | ((first | refine wR ?_ | refine wD ?_ | refine W.skip ?_ | refine W.exit ?_ | refine W.ret (Post.ret ?_) | refine aP ?_ | refine aF ?_); simp only [go_sem, reduceCtorEq]) | refine wT ?_ | refine wF ?_ | refine wC (fun h => ?_) (fun h => ?_) | refine iK ?_ | refine aI2 ?_ | (refine hK _ ?_; clear hK K) | clear hK K)
  clear c1
  refine W.loopF (T := fun x : Nat × Int × List Int => { t := [(2, .c (.ptr 0 0)), (5, .c (.ref 1)), (6, ft (.int .i64 (fnd t.nds x.2.1 : Nat))), (7, ft (.bool (fndB t.nds x.2.1)))], h := [(0, .box 28 [fl (.int .i64 t.tr), .im (.sl 35 (t.nds.map ndA)), .im (.sl 3 (t.roots.map iA)), .im (.sl 3 (t.orph.map iA)), .im (.sl 3 (t.cyc.map iA)), .im (.sl 3 (t.miss.map iA))]), (1, .row 3 (imR (x.2.2.map iA)))], nx := 2, ex := [], nt := 41 })
    (Inv := fun x => OkS t.nds x.2.2 ∧ (∀ p, parOf t.nds x.2.1 = some p → t.nds.length < x.1 + x.2.2.length) ∧ ancF t.nds x.1 x.2.1 x.2.2 = ancT t.nds id) (μ := fun x => x.1) (x0 := (t.nds.length + 1, id, [])) ?_ ⟨⟨List.nodup_nil, by simp⟩, fun _ _ => by simp, rfl⟩ ?_
  · refine Fits.adopt 5 900 3 rfl rfl rfl tE3 rfl ?_
    refine Fits.fit [(0, 0), (900, 1)] [2, 5, 6, 7] 2 rfl rfl ?_
    simp only [go_sem, List.map_nil, imR_nil]
    exact Fits.rfl
  rintro ⟨k, c, out⟩ ⟨hok, hfu, hR⟩ KL hKL
  dsimp only at hok hfu hR ⊢
  have hol := hok.len
  refine W.lenX 0 1 rfl rfl tE35 fun _ hnb => ?_
  rw [List.length_map] at hnb
  cases hp : parOf t.nds c with
  | none =>
    have hb : fndB t.nds c = false := by rw [parOf_B, hp]; rfl
    have hR2 : out = ancT t.nds id := by
      rw [← hR]
      cases k with
      | zero => rfl
      | succ k => rw [ancF, hp]
    clear hKL ci cc
    repeat' (first | refine W.seq fun K hK => ?_ | refine W.block ?_ | ((first | refine wR ?_ | refine wD ?_ | refine W.skip ?_ | refine W.exit ?_ | refine W.ret (Post.ret ?_) | refine aP ?_ | refine aF ?_); simp only [go_sem, reduceCtorEq, hb]) | refine wT ?_ | refine wF ?_ | refine wC (fun h => ?_) (fun h => ?_) | refine iK ?_ | refine aI2 ?_ | (refine hK _ ?_; clear hK K) | clear hK K)
    rw [hR2]
  | some p =>
    have hb : fndB t.nds c = true := by rw [parOf_B, hp]; rfl
    obtain ⟨nd, hnf, hne, hnp⟩ := parOf_at hp
    subst hnp
    have hfu := hfu _ hp
    have hix : (t.nds.map ndA)[fnd t.nds c]? = some (ndA nd) := by rw [List.getElem?_map, hnf]; rfl
    have hlt2 : fnd t.nds c < t.nds.length := (List.getElem?_eq_some_iff.1 hnf).1
    have f1 : decide (fnd t.nds c < t.nds.length) = true := by simp [hlt2]
    cases k with
    | zero => omega
    | succ k =>
    rw [ancF, hp] at hR
    dsimp only at hR
    have c2 := ci nd.pa
    have c3 := cc out nd.pa
    clear ci cc
    cases h0 : (nd.pa == 0) with
    | true =>
      rw [if_pos (.inl (by simpa using h0))] at hR
      clear hKL
      repeat' (first | refine W.seq fun K hK => ?_ | refine W.block ?_ | ((first | refine wR ?_ | refine wD ?_ | refine W.skip ?_ | refine W.exit ?_ | refine W.ret (Post.ret ?_) | refine aP ?_ | refine aF ?_); simp only [go_sem, reduceCtorEq, hb, hix, ndA, f1, h0, List.length_map]) | refine wT ?_ | refine wF ?_ | refine wC (fun h => ?_) (fun h => ?_) | refine iK ?_ | refine aI2 ?_ | (refine hK _ ?_; clear hK K) | clear hK K)
      rw [hR]
    | false =>
      have h0' : ¬ nd.pa = 0 := by simpa using h0
      cases h1 : out.contains nd.pa with
      | true =>
        have h1' : nd.pa ∈ out := List.contains_iff_mem.1 h1
        rw [if_pos (.inr h1')] at hR
        rw [h1] at c3
        clear hKL
        repeat' (first | refine W.seq fun K hK => ?_ | refine W.block ?_ | ((first | refine wR ?_ | refine wD ?_ | refine W.skip ?_ | refine W.exit ?_ | refine W.ret (Post.ret ?_) | refine aP ?_ | refine aF ?_); simp only [go_sem, reduceCtorEq, hb, hix, ndA, f1, h0, List.length_map]) | refine wT ?_ | refine wF ?_ | refine wC (fun h => ?_) (fun h => ?_) | refine iK ?_ | refine aI2 ?_ | (refine hK _ ?_; clear hK K) | clear hK K)
        rw [hR]
      | false =>
        have h1' : ¬ nd.pa ∈ out := fun h => by rw [List.contains_iff_mem.2 h] at h1; cases h1
        rw [if_neg (fun h => h.elim h0' h1')] at hR
        rw [h1] at c3
        cases hq : parOf t.nds nd.pa with
        | none =>
          have hb2 : fndB t.nds nd.pa = false := by rw [parOf_B, hq]; rfl
          rw [hq] at hR
          dsimp only at hR
          have hR2 : ancF t.nds k nd.pa out = ancT t.nds id := by
            rw [← hR]
            cases k with
            | zero => rfl
            | succ k => rw [ancF, hq]
          repeat' (first | refine W.seq fun K hK => ?_ | refine W.block ?_ | ((first | refine wR ?_ | refine wD ?_ | refine W.skip ?_ | refine W.exit ?_ | refine W.ret (Post.ret ?_) | refine aP ?_ | refine aF ?_); simp only [go_sem, reduceCtorEq, hb, hb2, hix, ndA, f1, h0, List.length_map]) | refine wT ?_ | refine wF ?_ | refine wC (fun h => ?_) (fun h => ?_) | refine iK ?_ | refine aI2 ?_ | (refine hK _ ?_; clear hK K) | clear hK K)
          refine hKL.to (k, nd.pa, out) ⟨hok, fun p h => (by rw [hq] at h; cases h), hR2⟩ (Nat.lt_succ_self k) (Fits.fit [(0, 0), (1, 1)] [2, 5, 6, 7] 2 rfl rfl ?_)
          simp only [go_sem, hb2]
          exact Fits.rfl
        | some q =>
          have hb2 : fndB t.nds nd.pa = true := by rw [parOf_B, hq]; rfl
          rw [hq] at hR
          dsimp only at hR
          repeat' (first | refine W.seq fun K hK => ?_ | refine W.block ?_ | ((first | refine wR ?_ | refine wD ?_ | refine W.skip ?_ | refine W.exit ?_ | refine W.ret (Post.ret ?_) | refine aP ?_ | refine aF ?_); simp only [go_sem, reduceCtorEq, hb, hb2, hix, ndA, f1, h0, List.length_map, imR_len]) | refine wT ?_ | refine wF ?_ | refine wC (fun h => ?_) (fun h => ?_) | refine iK ?_ | refine aI2 ?_ | (refine hK _ ?_; clear hK K) | clear hK K)
          refine hKL.to (k, nd.pa, out ++ [nd.pa]) ⟨hok.snocP hq h1', fun p h => (by rw [List.length_append, List.length_singleton]; omega), hR⟩ (Nat.lt_succ_self k) ?_
          refine Fits.fit [(0, 0), (29, 1)] [2, 5, 6, 7] 2 rfl rfl ?_
          simp only [go_sem, hb2, imR_snocI]
          exact Fits.rfl
theorem spans_c (c144 : SortC Tryz.prog 144 14) (m : RM) (k : Int) (hk : I64 k) : GCall Tryz.prog 45 2 (St.g [.c (.ptr 0 0), ft (.int .i64 k)] [(0, .box 115 [.mp 1]), (1, .map 3 (rcE m))] 2) (St.r (spsT (winS (recs m k))) [(0, .box 115 [.mp 1]), (1, .map 3 (rcE m))] 2) := by
  have hko := koI hk
  cases hg : getK m k with
  | some o =>
    have hget : mget (Value.int .i64 k) (rcE m) = some (false, [.im (.sl 88 (o.map spA))]) := by rw [rcE_get, hg]; rfl
    have c69 := winners_c c144 o
    rw [chg_some hg]
    refine GCall.introG (nt := 14) (rs := [.tmp 4]) Tryz.func45 rfl ⟨by kernel_rfl, by kernel_rfl, by kernel_rfl⟩ (by simp) ?_
    rintro ⟨P, w0, ok0, may, np, pblk⟩ rfl rfl
    simp only [go_sem]
    repeat' (first | refine W.seq fun K hK => ?_ | refine W.block ?_ | ((first | refine wR ?_ | refine wD ?_ | refine W.skip ?_ | refine W.exit ?_ | refine W.ret (Post.ret ?_) | refine aP ?_ | refine aF ?_ | refine aL ?_ | refine aU (hnn := by simp only [go_sem, reduceCtorEq, hget, hko]) ?_ | refine aM ?_ | refine aN ?_ | refine aR ?_); simp only [go_sem, reduceCtorEq, hget, hko]) | refine wT ?_ | refine wF ?_ | refine wC (fun h => ?_) (fun h => ?_) | refine iK ?_ | refine aI2 ?_ | (refine hK _ ?_; clear hK K) | clear hK K)
    refine W.ret (PostG.ret (Fits.fit [(0, 0), (1, 1)] [4] 2 rfl rfl Fits.rfl) rfl rfl ?_)
    simp only [St.r, go_sem, rnEs_rcE]
  | none =>
    have hget : mget (Value.int .i64 k) (rcE m) = none := by rw [rcE_get, hg]; rfl
    have c69 : PCall Tryz.prog 69 [ft (.slice none 0 0)] (spsT (winS [])) := PCall.conv (args' := [spsT []]) (winners_c c144 []) (Al.cons (TLe.c CLe.nil) Al.nil) TLe.rfl
    rw [chg_none hg]
    refine GCall.introG (nt := 14) (rs := [.tmp 4]) Tryz.func45 rfl ⟨by kernel_rfl, by kernel_rfl, by kernel_rfl⟩ (by simp) ?_
    rintro ⟨P, w0, ok0, may, np, pblk⟩ rfl rfl
    simp only [go_sem]
    repeat' (first | refine W.seq fun K hK => ?_ | refine W.block ?_ | ((first | refine wR ?_ | refine wD ?_ | refine W.skip ?_ | refine W.exit ?_ | refine W.ret (Post.ret ?_) | refine aP ?_ | refine aF ?_ | refine aL ?_ | refine aU (hnn := by simp only [go_sem, reduceCtorEq, hget, hko]) ?_ | refine aM ?_ | refine aN ?_ | refine aR ?_); simp only [go_sem, reduceCtorEq, hget, hko]) | refine wT ?_ | refine wF ?_ | refine wC (fun h => ?_) (fun h => ?_) | refine iK ?_ | refine aI2 ?_ | (refine hK _ ?_; clear hK K) | clear hK K)
    refine W.ret (PostG.ret (Fits.fit [(0, 0), (1, 1)] [4] 2 rfl rfl Fits.rfl) rfl rfl ?_)
    simp only [St.r, go_sem, rnEs_rcE]
end Go.Proofs.YtigenjeealkdlaaGreat
namespace Go.Proofs.YtigenjeealkdlaaGreat
open Go.RowKit Go.Exe
/-! ### families -/
abbrev Fm := Nat × Nat × Nat × Nat
def famA (q : Fm) : List AV := [.flat (.int .u8 (q.1 : Nat)), .flat (.int .u8 (q.2.1 : Nat)), .flat (.int .u8 (q.2.2.1 : Nat)), .flat (.int .u8 (q.2.2.2 : Nat))]
abbrev famT (l : List Fm) : TV := .c (.im (.sl 93 (l.map famA)))
def famS (q : Fm) : Spn := ⟨((1 + q.1 % 2 : Nat) : Int), ((1 + q.2.1 % 6 : Nat) : Int), ((q.2.2.1 % 8 : Nat) : Int), ((q.2.2.2 % 3 : Nat) : Int), 1, 1, ⟨#[115]⟩, .empty, ⟨#[111]⟩, 0, 0, false, [], []⟩
def spN (s : Spn) : List AV := [.flat (.int .i64 s.tr), .flat (.int .i64 s.id), .flat (.int .i64 s.pa), .flat (.int .i64 s.rev), .flat (.int .i64 s.clk), .flat (.int .i64 s.kd), .flat (.string s.sv), .flat (.string s.ve), .flat (.string s.op), .flat (.int .i64 s.st), .flat (.int .i64 s.en), .flat (.bool s.er), .flat (.slice none 0 0), .flat (.slice none 0 0)]
def famL (l : List Fm) : List Spn := (l.take 12).map famS
def FmOk (q : Fm) : Prop := q.1 < 256 ∧ q.2.1 < 256 ∧ q.2.2.1 < 256 ∧ q.2.2.2 < 256
theorem fam_le (l : List Fm) : Al (Al CLe) (imR ((l.map famS).map spN)) (imR ((l.map famS).map spA)) := by
  refine ⟨by simp [imR], fun i u x hu hx => ?_⟩
  simp only [imR, List.map_map, List.getElem?_map, Option.map_eq_some_iff] at hu hx
  obtain ⟨s, hs, rfl⟩ := hu
  obtain ⟨s', hs', rfl⟩ := hx
  rw [hs] at hs'
  cases hs'
  simp only [Function.comp, imL, spN, spA, famS, List.map]
  repeat (first | exact Al.nil | (refine Al.cons (by first | exact CLe.rfl | exact CLe.nil) ?_))
theorem fam_row {l : List Fm} {i : Nat} {q : Fm} (h : l[i]? = some q) : imR (((l.take (i + 1)).map famS).map spN) = imR (((l.take i).map famS).map spN) ++ [(spN (famS q)).map .im] := by
  rw [List.take_add_one, h]; simp [imR, imL]
theorem tmN (a b : Nat) : Int.tmod (a : Int) (b : Int) = ((a % b : Nat) : Int) := by rw [Int.tmod_eq_emod_of_nonneg (by omega)]; omega
theorem w64n' (n : Nat) (h : n < 9223372036854775807) : IntKind.i64.wrap (n : Int) = (n : Int) := w64 (by omega) (by omega)
attribute [local irreducible] W AX Run RunD AStep AOp AOpX AStB AStH AStG Fits PCall GCall PostG Post Stop
theorem family_c (l : List Fm) (hl : ∀ q ∈ l, FmOk q) : PCall Tryz.prog 14 [famT l] (spsT (famL l)) := by
  have hA : Tryz.prog.underlying 93 = some (.array 4 5) := by kernel_rfl
  have hE := tE5
  have hN : EL Tryz.prog 93 = none := by kernel_rfl
  refine PCall.intro (nt := 50) (rs := [.tmp 2]) Tryz.func14 rfl ⟨by kernel_rfl, by kernel_rfl, by kernel_rfl⟩ (by simp) ?_
  rintro ⟨P, w0, ok0, may, np, pblk⟩ rfl rfl
  refine W.lenB 0 rfl tE93 fun hl0 hl1 => ?_
  rw [List.length_map] at hl1
  repeat' (first | refine W.seq fun K hK => ?_ | refine W.block ?_ | ((first | refine wR ?_ | refine wD ?_ | refine W.skip ?_ | refine W.exit ?_ | refine W.ret (Post.ret ?_) | refine aP ?_ | refine aF ?_ | refine aW ?_); simp only [go_sem, reduceCtorEq]) | refine wT ?_ | refine wF ?_ | refine wC (fun h => ?_) (fun h => ?_) | refine iK ?_ | refine aI2 ?_ | (refine hK _ ?_; clear hK K) | clear hK K)
  refine W.loopF (T := fun i : Nat => { t := [(0, famT l), (3, .c (.ref 0)), (4, ft (.int .i64 (i : Nat)))], h := [(0, .row 88 (imR (((l.take i).map famS).map spN)))], nx := 1, ex := [], nt := 50 })
    (Inv := fun i => i ≤ l.length ∧ i ≤ 12) (μ := fun i => 12 - i) (x0 := 0) ?_ ⟨Nat.zero_le _, Nat.zero_le _⟩ ?_
  · refine Fits.adopt 3 900 88 rfl rfl rfl tE88 rfl ?_
    refine Fits.fit [(900, 0)] [0, 3, 4] 1 rfl rfl ?_
    simp only [go_sem, List.take_zero, List.map_nil, imR_nil]
    exact Fits.rfl
  rintro i ⟨hi, hi2⟩ KL hKL
  by_cases hlt : i < l.length
  · by_cases h12 : i < 12
    · obtain ⟨q, hx, hm, hd⟩ := drop_at hlt
      obtain ⟨b1, b2, b3, b4⟩ := hl q hm
      have e1 : decide ((i : Int) < l.length) = true := by simp; omega
      have e2 : decide ((i : Int) < 12) = true := by simp; omega
      have e3 : decide (i < l.length) = true := by simp; omega
      have hw := w64s i (by omega)
      have m1 : Int.tmod (q.1 : Int) 2 = ((q.1 % 2 : Nat) : Int) := tmN q.1 2
      have m2 : Int.tmod (q.2.1 : Int) 6 = ((q.2.1 % 6 : Nat) : Int) := tmN q.2.1 6
      have m3 : Int.tmod (q.2.2.1 : Int) 8 = ((q.2.2.1 % 8 : Nat) : Int) := tmN q.2.2.1 8
      have m4 : Int.tmod (q.2.2.2 : Int) 3 = ((q.2.2.2 % 3 : Nat) : Int) := tmN q.2.2.2 3
      have y1 : IntKind.i64.wrap (1 + ((q.1 % 2 : Nat) : Int)) = ((1 + q.1 % 2 : Nat) : Int) := by rw [w64 (by omega) (by omega)]; omega
      have y2 : IntKind.i64.wrap (1 + ((q.2.1 % 6 : Nat) : Int)) = ((1 + q.2.1 % 6 : Nat) : Int) := by rw [w64 (by omega) (by omega)]; omega
      have x1 : Int.toNat 1 * 1 = 1 := rfl
      have x2 : Int.toNat 2 * 1 = 2 := rfl
      have x3 : Int.toNat 3 * 1 = 3 := rfl
      have z1 := w64n' (q.1 % 2) (by omega)
      have z2 := w64n' (q.2.1 % 6) (by omega)
      have z3 := w64n' (q.2.2.1 % 8) (by omega)
      have z4 := w64n' (q.2.2.2 % 3) (by omega)
      clear hl
      repeat' (first | refine W.seq fun K hK => ?_ | refine W.block ?_ | ((first | refine wR ?_ | refine wD ?_ | refine W.skip ?_ | refine W.exit ?_ | refine W.ret (Post.ret ?_) | refine aP ?_ | refine aF ?_ | refine aW ?_); simp only [go_sem, reduceCtorEq, hN, List.getElem?_map, hx, famA, e1, e2, e3, hw, List.length_map, m1, m2, m3, m4, z1, z2, z3, z4, y1, y2, x1, x2, x3, List.drop_succ_cons, List.drop_zero, imR_len]) | refine wT ?_ | refine wF ?_ | refine wC (fun h => ?_) (fun h => ?_) | refine iK ?_ | refine aI2 ?_ | (refine hK _ ?_; clear hK K) | clear hK K)
      refine hKL.to (i + 1) ⟨by omega, by omega⟩ (by omega) (Fits.fit [(42, 0)] [0, 3, 4] 1 rfl rfl ?_)
      have hrow := fam_row hx
      simp only [spN, famS, List.map] at hrow
      simp only [go_sem]
      rw [hrow]
      exact Fits.rfl
    · obtain rfl : i = 12 := by omega
      have e1 : decide ((12 : Nat) < (l.length : Int)) = true := by simp; omega
      have e2 : decide (((12 : Nat) : Int) < 12) = false := by decide
      have hle := fam_le (l.take 12)
      clear hKL hl
      repeat' (first | refine W.stop (id := 6) ?_ | refine W.seq fun K hK => ?_ | refine W.block ?_ | ((first | refine wR ?_ | refine wD ?_ | refine W.skip ?_ | refine W.exit ?_ | refine W.ret (Post.ret ?_) | refine aP ?_ | refine aF ?_ | refine aW ?_); simp only [go_sem, reduceCtorEq, e1, e2, List.length_map]) | refine wT ?_ | refine wF ?_ | refine wC (fun h => ?_) (fun h => ?_) | refine iK ?_ | refine aI2 ?_ | (refine hK _ ?_; clear hK K) | clear hK K)
      refine Stop.out ?_
      refine W.fits (Fits.rowLe 0 _ rfl hle Fits.rfl) ?_
      simp only [go_sem]
      repeat' (first | refine W.seq fun K hK => ?_ | refine W.block ?_ | ((first | refine wR ?_ | refine wD ?_ | refine W.skip ?_ | refine W.exit ?_ | refine W.ret (Post.ret ?_) | refine aP ?_ | refine aF ?_ | refine aW ?_); simp only [go_sem, reduceCtorEq]) | refine wT ?_ | refine wF ?_ | refine wC (fun h => ?_) (fun h => ?_) | refine iK ?_ | refine aI2 ?_ | (refine hK _ ?_; clear hK K) | clear hK K)
      rfl
  · obtain rfl : i = l.length := by omega
    have e1 : decide ((l.length : Int) < (l.length : Int)) = false := by simp
    have hle := fam_le (l.take l.length)
    rw [List.take_length] at hle
    have hfl : famL l = l.map famS := by unfold famL; rw [List.take_of_length_le hi2]
    rw [List.take_length]
    clear hKL hl
    repeat' (first | refine W.stop (id := 6) ?_ | refine W.seq fun K hK => ?_ | refine W.block ?_ | ((first | refine wR ?_ | refine wD ?_ | refine W.skip ?_ | refine W.exit ?_ | refine W.ret (Post.ret ?_) | refine aP ?_ | refine aF ?_ | refine aW ?_); simp only [go_sem, reduceCtorEq, e1, List.length_map]) | refine wT ?_ | refine wF ?_ | refine wC (fun h => ?_) (fun h => ?_) | refine iK ?_ | refine aI2 ?_ | (refine hK _ ?_; clear hK K) | clear hK K)
    refine Stop.out ?_
    refine W.fits (Fits.rowLe 0 _ rfl hle Fits.rfl) ?_
    simp only [go_sem]
    repeat' (first | refine W.seq fun K hK => ?_ | refine W.block ?_ | ((first | refine wR ?_ | refine wD ?_ | refine W.skip ?_ | refine W.exit ?_ | refine W.ret (Post.ret ?_) | refine aP ?_ | refine aF ?_ | refine aW ?_); simp only [go_sem, reduceCtorEq]) | refine wT ?_ | refine wF ?_ | refine wC (fun h => ?_) (fun h => ?_) | refine iK ?_ | refine aI2 ?_ | (refine hK _ ?_; clear hK K) | clear hK K)
    rw [hfl]
end Go.Proofs.YtigenjeealkdlaaGreat
namespace Go.Proofs.YtigenjeealkdlaaGreat
open Go.RowKit Go.Exe
/-! ### laws of sets of records -/
theorem srt_id {l : List Spn} {t : Int} (ht : ∀ s ∈ l, s.tr = t) (hs : l.Pairwise fun a b => a.id < b.id) : l.Pairwise fun a b => a.cmp b < 0 := by
  have : l.Pairwise fun a b => a ∈ l ∧ b ∈ l := List.pairwise_of_forall_mem_list fun a ha b hb => ⟨ha, hb⟩
  refine (hs.and this).imp fun {a b} ⟨hab, ha, hb⟩ => ?_
  have h1 := ht a ha
  have h2 := ht b hb
  have e : cmpI a.id b.id = -1 := by unfold cmpI; rw [if_pos hab]
  have e2 : cmpsG cmpI a.ints b.ints = -1 := by
    have e0 : cmpI a.tr b.tr = 0 := by rw [h1, h2]; simp [cmpI]
    simp [Spn.ints, cmpsG, e, e0]
  simp [Spn.cmp, orL, e2]
theorem compT_fix : ∀ (l : List Spn) (p : Spn), (p :: l).Pairwise (fun a b => a.cmp b < 0) → compT p l = l
  | [], _, _ => rfl
  | x :: r, p, h => by
    have h1 := (List.pairwise_cons.1 h).1 x (by simp)
    have h2 := lwSp.anti p x
    have h3 : (x.cmp p == 0) = false := by simp; omega
    simp only [compT, h3, Bool.false_eq_true, if_false]
    rw [compT_fix r x (List.pairwise_cons.1 h).2]
theorem setS_fix {l : List Spn} (h : l.Pairwise fun a b => a.cmp b < 0) : setS l = l := by
  have h1 : srtG Spn.cmp l = l := (lwSp.srt_uni (List.Perm.refl _) (h.imp fun {a b} hab => by have := lwSp.anti a b; omega)).symm
  rw [setS, h1]
  cases l with
  | nil => rfl
  | cons x r => simp only [compG]; rw [compT_fix r x h]
theorem chosen_allB {l : List Spn} {keep : Nat → Bool} (h : ∀ i, i < l.length → keep i = true) : ∀ n, n ≤ l.length → chosenN keep l n = l.take n
  | 0, _ => by simp [chosenN]
  | n + 1, hn => by
    rw [chosenN, chosen_allB h n (by omega), h n (by omega), List.take_add_one, List.getElem?_eq_getElem (by omega)]
    simp [List.getD_eq_getElem?_getD, List.getElem?_eq_getElem (show n < l.length by omega)]
theorem ofS_fix {l : List Spn} {t : Int} (ht : ∀ s ∈ l, s.tr = t) (hs : l.Pairwise fun a b => a.id < b.id) : ofS l t = l := by
  have hf : (l.filter fun x => !(x.tr != t)) = l := by
    rw [List.filter_eq_self]
    intro x hx
    simp [ht x hx]
  have h1 := setS_fix (srt_id ht hs)
  unfold ofS
  rw [hf]
  unfold winS
  rw [h1, chosen_allB (fun i hi => ?_) l.length (Nat.le_refl _), List.take_length]
  unfold isLast
  rw [List.getElem?_eq_getElem hi]
  by_cases h2 : i + 1 < l.length
  · rw [List.getElem?_eq_getElem h2]
    have := List.pairwise_iff_getElem.1 hs i (i + 1) hi h2 (by omega)
    have h3 : (l[i + 1].id == l[i].id) = false := by simp; omega
    simp [h3]
  · rw [List.getElem?_eq_none (by omega)]
theorem nodup_sorted {ss : List Spn} (h : ss.Pairwise fun a b => a.id < b.id) : (idsOf ss).Nodup := by
  rw [idsOf, List.Nodup, List.pairwise_map]
  exact h.imp fun {a b} hab e => by omega
def trF (l : List Spn) (t : Int) : List Spn := l.filter fun x => !(x.tr != t)
theorem mem_trF {l : List Spn} {t : Int} {s : Spn} : s ∈ trF l t ↔ s ∈ l ∧ s.tr = t := by simp [trF]
theorem nlt_le {a b : Spn} (h : ¬ b.cmp a < 0) : a.cmp b ≤ 0 := by have := lwSp.anti a b; omega
theorem compT_lt : ∀ (r : List Spn) (p : Spn), (p :: r).Pairwise (fun a b => ¬ b.cmp a < 0) → (p :: compT p r).Pairwise (fun a b => a.cmp b < 0)
  | [], p, _ => by simp [compT]
  | x :: r, p, h => by
    obtain ⟨h1, h2⟩ := List.pairwise_cons.1 h
    have ih := compT_lt r x h2
    unfold compT
    by_cases e : x.cmp p = 0
    · have := lwSp.eq _ _ e
      subst this
      rw [if_pos (by simpa using e)]
      exact ih
    · rw [if_neg (by simpa using e)]
      have hpx : p.cmp x < 0 := by
        have h3 := nlt_le (h1 x (by simp))
        have h4 := lwSp.anti p x
        omega
      refine List.pairwise_cons.2 ⟨fun y hy => ?_, ih⟩
      rcases List.mem_cons.1 hy with rfl | hy
      · exact hpx
      · exact lwSp.lt1 hpx (by have := (List.pairwise_cons.1 ih).1 y hy; omega)
theorem setS_lt (l : List Spn) : (setS l).Pairwise fun a b => a.cmp b < 0 := by
  have h := lwSp.sorted l
  unfold setS
  cases hs : srtG Spn.cmp l with
  | nil => exact List.Pairwise.nil
  | cons x r => rw [hs] at h; exact compT_lt r x h
theorem compT_mem : ∀ (r : List Spn) (p y : Spn), y ∈ p :: r → y ∈ p :: compT p r
  | [], p, y, h => h
  | x :: r, p, y, h => by
    unfold compT
    by_cases e : x.cmp p = 0
    · have := lwSp.eq _ _ e
      subst this
      rw [if_pos (by simpa using e)]
      refine compT_mem r x y ?_
      rcases List.mem_cons.1 h with rfl | h
      · simp
      · exact h
    · rw [if_neg (by simpa using e)]
      rcases List.mem_cons.1 h with rfl | h
      · simp
      · exact List.mem_cons_of_mem _ (compT_mem r x y h)
theorem mem_setS {l : List Spn} {s : Spn} : s ∈ setS l ↔ s ∈ l := by
  refine ⟨setS_mem, fun h => ?_⟩
  have h2 := (srtG_perm Spn.cmp l).mem_iff.2 h
  unfold setS
  cases hs : srtG Spn.cmp l with
  | nil => rw [hs] at h2; cases h2
  | cons x r => rw [hs] at h2; exact compT_mem r x s h2
theorem lt_nodup {l : List Spn} (h : l.Pairwise fun a b => a.cmp b < 0) : l.Nodup := h.imp fun {a b} hab e => by subst e; have := lwSp.refl a; omega
theorem lt_uni {l m : List Spn} (h1 : l.Pairwise fun a b => a.cmp b < 0) (h2 : m.Pairwise fun a b => a.cmp b < 0) (h : ∀ s, s ∈ l ↔ s ∈ m) : l = m :=
  lwSp.uni ((List.perm_ext_iff_of_nodup (lt_nodup h1) (lt_nodup h2)).2 h) (h1.imp fun {a b} hab => by have := lwSp.anti a b; omega) (h2.imp fun {a b} hab => by have := lwSp.anti a b; omega)
theorem setS_eq {l m : List Spn} (h : ∀ s, s ∈ l ↔ s ∈ m) : setS l = setS m := lt_uni (setS_lt l) (setS_lt m) fun s => by rw [mem_setS, mem_setS]; exact h s
theorem setS_set (l : List Spn) : setS (setS l) = setS l := setS_eq fun s => mem_setS
/-- In one trace the order of records is that of the ids first, then of the revisions. -/
theorem cmp_id {a b : Spn} (ht : a.tr = b.tr) (h : a.cmp b < 0) : a.id < b.id ∨ (a.id = b.id ∧ a.rev ≤ b.rev) := by
  by_cases h1 : a.id < b.id
  · exact .inl h1
  · have e1 : cmpI a.tr b.tr = 0 := by rw [ht]; simp [cmpI]
    by_cases h2 : b.id < a.id
    · have e : cmpI a.id b.id = 1 := by unfold cmpI; rw [if_neg h1, if_pos h2]
      have e2 : cmpsG cmpI a.ints b.ints = 1 := by simp [Spn.ints, cmpsG, e, e1]
      simp [Spn.cmp, orL, e2] at h
    · have hid : a.id = b.id := by omega
      refine .inr ⟨hid, ?_⟩
      by_cases h3 : a.rev ≤ b.rev
      · exact h3
      · have e : cmpI a.id b.id = 0 := by rw [hid]; simp [cmpI]
        have e3 : cmpI a.rev b.rev = 1 := by unfold cmpI; rw [if_neg (by omega), if_pos (by omega)]
        have e2 : cmpsG cmpI a.ints b.ints = 1 := by simp [Spn.ints, cmpsG, e, e1, e3]
        simp [Spn.cmp, orL, e2] at h
theorem chosenN_is (keep : Nat → Bool) (l : List Spn) : ∀ n, chosenN keep l n = ((List.range n).filter keep).map fun i => l.getD i default
  | 0 => rfl
  | n + 1 => by
    rw [chosenN, chosenN_is keep l n, List.range_succ, List.filter_append, List.map_append]
    cases h : keep n <;> simp [h]
/-- The final records of one trace: each id once, in order. -/
theorem winS_srt {l : List Spn} {t : Int} (ht : ∀ s ∈ l, s.tr = t) : (winS l).Pairwise fun a b => a.id < b.id := by
  have hS := setS_lt l
  have htS : ∀ s ∈ setS l, s.tr = t := fun s hs => ht s (mem_setS.1 hs)
  unfold winS
  obtain ⟨S, hSe⟩ : ∃ S, S = setS l := ⟨_, rfl⟩
  rw [← hSe] at hS htS ⊢
  rw [chosenN_is, List.pairwise_map, List.pairwise_filter]
  have hr : (List.range S.length).Pairwise fun i j => i < j ∧ i < S.length ∧ j < S.length := by
    have h1 : (List.range S.length).Pairwise fun i j => i ∈ List.range S.length ∧ j ∈ List.range S.length := List.pairwise_of_forall_mem_list fun a ha b hb => ⟨ha, hb⟩
    refine (List.pairwise_lt_range.and h1).imp fun {i j} ⟨h2, h3, h4⟩ => ⟨h2, List.mem_range.1 h3, List.mem_range.1 h4⟩
  refine hr.imp fun {i j} ⟨hij, hi, hj⟩ hki hkj => ?_
  have hm : ∀ k (hk : k < S.length), S[k].tr = t := fun k hk => htS _ (List.getElem_mem hk)
  have hle : ∀ a b (ha : a < S.length) (hb : b < S.length), a < b → S[a].id ≤ S[b].id := fun a b ha hb hab => by
    rcases cmp_id (by rw [hm a ha, hm b hb]) (List.pairwise_iff_getElem.1 hS a b ha hb hab) with h | ⟨h, _⟩ <;> omega
  rw [List.getD_eq_getElem?_getD, List.getD_eq_getElem?_getD, List.getElem?_eq_getElem hi, List.getElem?_eq_getElem hj]
  simp only [Option.getD_some]
  unfold isLast at hki
  rw [List.getElem?_eq_getElem hi, List.getElem?_eq_getElem (show i + 1 < S.length by omega)] at hki
  simp only [Bool.not_eq_true', Bool.and_eq_false_iff, beq_eq_false_iff_ne] at hki
  have h1 := hle i (i + 1) hi (by omega) (by omega)
  have h2 : S[i].id ≠ S[i + 1].id := by
    rcases hki with h | h
    · exact absurd (by rw [hm, hm]) h
    · exact fun e => h e.symm
  have h3 : S[i + 1].id ≤ S[j].id := by
    by_cases e : i + 1 = j
    · subst e; exact Int.le_refl _
    · exact hle (i + 1) j (by omega) hj (by omega)
  omega
theorem winS_mem {l : List Spn} {s : Spn} (h : s ∈ winS l) : s ∈ l := by
  unfold winS at h
  rw [chosenN_is, List.mem_map] at h
  obtain ⟨i, hi, rfl⟩ := h
  have hil := List.mem_range.1 (List.mem_filter.1 hi).1
  rw [List.getD_eq_getElem?_getD, List.getElem?_eq_getElem hil]
  exact mem_setS.1 (List.getElem_mem hil)
theorem trF_tr (l : List Spn) (t : Int) : ∀ s ∈ trF l t, s.tr = t := fun s hs => (mem_trF.1 hs).2
theorem ofS_srt (l : List Spn) (t : Int) : (ofS l t).Pairwise fun a b => a.id < b.id := winS_srt (trF_tr l t)
theorem ofS_mem {l : List Spn} {t : Int} {s : Spn} (h : s ∈ ofS l t) : s ∈ l ∧ s.tr = t := mem_trF.1 (winS_mem h)
end Go.Proofs.YtigenjeealkdlaaGreat
namespace Go.Proofs.YtigenjeealkdlaaGreat
open Go.RowKit Go.Exe
/-! ### the first example -/
def exF : List Fm := [(0, 0, 0, 0), (0, 1, 1, 0), (0, 2, 7, 0), (0, 3, 5, 0), (0, 4, 4, 0)]
def exL : List Spn := famL exF
def exT : Tr := ⟨1, [⟨1, 0, 0, [2]⟩, ⟨2, 1, 1, []⟩, ⟨3, 7, 0, []⟩, ⟨4, 5, -1, [5]⟩, ⟨5, 4, -1, [4]⟩], [1], [3], [4, 5], [7]⟩
theorem ex_tr : ∀ s ∈ exL, s.tr = 1 := by decide
theorem ex_srt : exL.Pairwise fun a b => a.id < b.id := by decide
theorem ex_of : ofS exL 1 = exL := ofS_fix ex_tr ex_srt
theorem ex_set : setS exL = exL := setS_fix (srt_id ex_tr ex_srt)
theorem ex_win : winS exL = exL := by
  have h := ex_of
  unfold ofS at h
  rwa [show (exL.filter fun x => !(x.tr != 1)) = exL by rw [List.filter_eq_self]; exact fun x hx => by simp [ex_tr x hx]] at h
theorem srt1 : ∀ n : Int, srtI [n] = [n] := fun n => by simp [srtI]
theorem ex_tree : treeOf 1 exL = exT := by
  unfold treeOf
  rw [show missN exL exL.length = [7] by decide, srt1]
  rfl
theorem ex_anc : ancT exT.nds 4 = [5, 4] := by decide
theorem ex_sub : subF exT.nds 4 = [4, 5] := by decide
theorem ex_more : moreR exL = [(1, exL)] := by unfold moreR; rw [ex_set]; decide
theorem win_nil : winS [] = [] := List.eq_nil_iff_forall_not_mem.2 fun s h => by have := winS_mem h; cases this
theorem ex_add : addF [] exL = ([(1, exL)], [1]) := by
  unfold addF
  rw [ex_more]
  simp only [List.map_cons, List.map_nil, srt1, List.foldl_cons, List.foldl_nil, addS]
  have h1 : nowR exL [] 1 = exL := by
    unfold nowR
    rw [ex_more]
    show setS ([] ++ exL) = exL
    rw [List.nil_append, ex_set]
  have h2 : chgR exL [] 1 = true := by
    unfold chgR
    rw [h1, ex_win]
    show (!eqSs exL (winS [])) = true
    rw [win_nil]
    decide
  rw [h1, h2]
  rfl
theorem nm_s : isName ⟨#[115]⟩ = true := by unfold isName emB witB; rw [BA_toList, BA_toList]; decide
theorem nm_o : isName ⟨#[111]⟩ = true := by unfold isName emB witB; rw [BA_toList, BA_toList]; decide
theorem em_e : emB .empty = true := by unfold emB; simp
theorem fam_chk (q : Fm) : chkS (famS q) = 0 := by
  have h1 : ckId (famS q) = false := by
    unfold ckId badId famS
    simp only [Bool.or_eq_false_iff, decide_eq_false_iff_not]
    refine ⟨⟨⟨⟨⟨⟨⟨⟨?_, ?_⟩, ?_, ?_⟩, ?_⟩, ?_⟩, ?_⟩, ?_⟩, ?_⟩, ?_⟩ <;> omega
  have h2 : ckNm (famS q) = false := by
    show (!isName ⟨#[115]⟩ || !isName ⟨#[111]⟩ || (!emB .empty && !isName .empty)) = false
    rw [nm_s, nm_o, em_e]; rfl
  unfold chkS
  rw [h1, h2]
  rfl
theorem famL_mem {l : List Fm} {s : Spn} (h : s ∈ famL l) : ∃ q ∈ l, s = famS q := by
  obtain ⟨q, hq, rfl⟩ := List.mem_map.1 h
  exact ⟨q, List.mem_of_mem_take hq, rfl⟩
theorem chkL_all : ∀ {l : List Spn}, (∀ s ∈ l, chkS s = 0) → chkL l = 0
  | [], _ => rfl
  | x :: r, h => by
    rw [chkL, h x (by simp)]
    exact chkL_all fun s hs => h s (by simp [hs])
theorem fam_chkL (l : List Fm) : chkL (famL l) = 0 := chkL_all fun s hs => by
  obtain ⟨q, _, rfl⟩ := famL_mem hs
  exact fam_chk q
theorem ex_chk : chkL exL = 0 := fam_chkL exF
theorem fam_ok (q : Fm) : StrOk (famS q) := ⟨⟨by show (ByteArray.mk #[115]).size ≤ _; decide, by show ByteArray.empty.size ≤ _; decide, by show (ByteArray.mk #[111]).size ≤ _; decide⟩, fun a ha => by cases ha⟩
theorem fam_okL (l : List Fm) : ∀ s ∈ famL l, StrOk s := fun s hs => by
  obtain ⟨q, _, rfl⟩ := famL_mem hs
  exact fam_ok q
theorem fam_I (l : List Fm) : ∀ s ∈ famL l, I64 s.tr ∧ I64 s.id ∧ I64 s.pa := fun s hs => by
  obtain ⟨q, _, rfl⟩ := famL_mem hs
  unfold famS I64
  refine ⟨?_, ?_, ?_⟩ <;> (dsimp only; omega)
theorem famL_len (l : List Fm) : (famL l).length ≤ 12 := by unfold famL; rw [List.length_map, List.length_take]; omega
end Go.Proofs.YtigenjeealkdlaaGreat
namespace Go.Proofs.YtigenjeealkdlaaGreat
open Go.RowKit Go.Exe
theorem ex_nds : exT.nds.Pairwise fun a b => a.id < b.id := by decide
theorem ex_ch : ∀ n ∈ exT.nds, ∀ c ∈ n.ch, I64 c := by unfold I64; decide
attribute [local irreducible] W AX Run RunD AStep AOp AOpX AStB AStH AStG Fits PCall GCall PostG Post Stop
theorem known_c (c144 : SortC Tryz.prog 144 14) (c85 : SortI Tryz.prog 85) (g84 : GrowC Tryz.prog 84 3 1 8) (g122 : GrowC Tryz.prog 122 88 14 168) : PCall Tryz.prog 12 [] (ft (.bool true)) := by
  have c14 : PCall Tryz.prog 14 [.c (.im (.sl 93 [[.flat (.int .u8 0), .flat (.int .u8 0), .flat (.int .u8 0), .flat (.int .u8 0)], [.flat (.int .u8 0), .flat (.int .u8 1), .flat (.int .u8 1), .flat (.int .u8 0)], [.flat (.int .u8 0), .flat (.int .u8 2), .flat (.int .u8 7), .flat (.int .u8 0)], [.flat (.int .u8 0), .flat (.int .u8 3), .flat (.int .u8 5), .flat (.int .u8 0)], [.flat (.int .u8 0), .flat (.int .u8 4), .flat (.int .u8 4), .flat (.int .u8 0)]]))] (spsT exL) := family_c exF (by unfold FmOk; decide)
  have c13 := build_c c144 c85 g84 exL 1 (by rw [ex_of]; exact nodup_sorted ex_srt) (by rw [ex_of]; exact fun s hs => (fam_I exF s hs).2)
  rw [ex_of, ex_tree] at c13
  have c25 := ancestors_c exT ex_nds 4
  rw [ex_anc] at c25
  have c15 := subtree_c exT ex_nds ex_ch 4 (by unfold I64; omega) (by decide)
  rw [ex_sub] at c15
  have c36 := add_c c144 c85 g122 [] exL 0 (fam_okL exF) ex_chk (fun s hs => (fam_I exF s hs).1) (by simp) (by have := famL_len exF; show (0 + ((famL exF).length + 1) * (famL exF).length) * 168 ≤ _; have h2 : ((famL exF).length + 1) * (famL exF).length ≤ 13 * 12 := Nat.mul_le_mul (by omega) this; omega)
  rw [ex_add] at c36
  have c45 := spans_c c144 [(1, exL)] 1 (by unfold I64; omega)
  rw [show recs [(1, exL)] 1 = exL from rfl, ex_win] at c45
  have hlen : exL.length = 5 := by decide
  have s1 := same_c [1] [1]
  have s2 := same_c [3] [3]
  have s3 := same_c [4, 5] [4, 5]
  have s4 := same_c [7] [7]
  have s5 := same_c [5, 4] [5, 4]
  simp only [decide_true, List.map, iA] at s1 s2 s3 s4 s5
  simp only [trT, trA, exT, List.map, ndA, iA] at c13 c25 c15 c36
  clear c144 c85 g84 g122
  refine PCall.intro (nt := 95) (rs := [.tmp 0]) Tryz.func12 rfl ⟨by kernel_rfl, by kernel_rfl, by kernel_rfl⟩ (by simp) ?_
  rintro ⟨P, w0, ok0, may, np, pblk⟩ rfl rfl
  repeat' (first | refine W.stop (id := 3) ?_ | refine W.seq fun K hK => ?_ | refine W.block ?_ | ((first | refine wR ?_ | refine wD ?_ | refine W.skip ?_ | refine W.exit ?_ | refine W.ret (Post.ret ?_) | refine aP ?_ | refine aF ?_ | refine aL ?_ | refine aU (hnn := by simp only [go_sem, reduceCtorEq, hlen]) ?_ | refine aM ?_ | refine aN ?_ | refine aR ?_); simp only [go_sem, reduceCtorEq, hlen]) | refine wT ?_ | refine wF ?_ | refine wC (fun h => ?_) (fun h => ?_) | refine iK ?_ | refine aI2 ?_ | (refine hK _ ?_; clear hK K) | clear hK K)
  refine Stop.out ?_
  refine W.fits (s' := { t := [(1, spsT exL), (2, .c (.ptr 0 0))], h := [(0, .box 28 [fl (.int .i64 1), .im (.sl 35 [[.flat (.int .i64 1), .flat (.int .i64 0), .flat (.int .i64 0), .sl 3 [[.flat (.int .i64 2)]]], [.flat (.int .i64 2), .flat (.int .i64 1), .flat (.int .i64 1), .sl 3 []], [.flat (.int .i64 3), .flat (.int .i64 7), .flat (.int .i64 0), .sl 3 []], [.flat (.int .i64 4), .flat (.int .i64 5), .flat (.int .i64 (-1)), .sl 3 [[.flat (.int .i64 5)]]], [.flat (.int .i64 5), .flat (.int .i64 4), .flat (.int .i64 (-1)), .sl 3 [[.flat (.int .i64 4)]]]]), .im (.sl 3 [[.flat (.int .i64 1)]]), .im (.sl 3 [[.flat (.int .i64 3)]]), .im (.sl 3 [[.flat (.int .i64 4)], [.flat (.int .i64 5)]]), .im (.sl 3 [[.flat (.int .i64 7)]])])], nx := 1, ex := [], nt := 95 }) (Fits.fit [(11, 0)] [1, 2] 1 rfl rfl Fits.rfl) ?_
  refine W.regE ?_
  refine ⟨rfl, OpE.gcallN 100 rfl rfl new_c rfl (fun k hk hu => by rcases hu with h | h <;> simp at h; omega) ?_⟩
  simp only [go_sem]
  refine ⟨rfl, OpE.ofAOp 200 (by simp [St.used]) ?_⟩
  simp only [go_sem]
  refine ⟨_, Fits.fit [(0, 0), (101, 1), (100, 2)] [1, 2, 3] 3 rfl rfl Fits.rfl, ?_⟩
  simp only [go_sem, rnEs_rcE]
  have n5 : (((5 : Nat) : Int) != 5) = false := by decide
  have n6 : ((1 : Int) == 1) = true := by decide
  have n7 : ((-1 : Int) == -1) = true := by decide
  have n8 : ((0 : Int) == 0) = true := by decide
  have n9 : (((5 : Nat) : Int) == 5) = true := by decide
  have i1 : Int.toNat 1 = 1 := rfl
  have i4 : Int.toNat 4 = 4 := rfl
  repeat' (first | refine W.seq fun K hK => ?_ | refine W.block ?_ | ((first | refine wR ?_ | refine wD ?_ | refine W.skip ?_ | refine W.exit ?_ | refine W.ret (Post.ret ?_) | refine aP ?_ | refine aF ?_ | refine aL ?_ | refine aU (hnn := by simp only [go_sem, reduceCtorEq, n5]) ?_ | refine aM ?_ | refine aN ?_ | refine aR ?_); simp only [go_sem, reduceCtorEq, n5]) | refine wT ?_ | refine wF ?_ | refine wC (fun h => ?_) (fun h => ?_) | refine iK ?_ | refine aI2 ?_ | (refine hK _ ?_; clear hK K) | clear hK K)
  refine AX.gcall [1, 2] rfl rfl (c36) (by simp only [go_sem, reduceCtorEq, rnEs_rcE]) (by simp only [go_sem, reduceCtorEq, rnEs_rcE]) rfl rfl (by simp only [go_sem, Obj.owns]) rfl (by simp only [go_sem, Obj.owns]) rfl rfl ?_
  simp only [go_sem, reduceCtorEq, rnEs_rcE]
  clear c36
  repeat' (first | refine W.seq fun K hK => ?_ | refine W.block ?_ | ((first | refine wR ?_ | refine wD ?_ | refine W.skip ?_ | refine W.exit ?_ | refine W.ret (Post.ret ?_) | refine aP ?_ | refine aF ?_ | refine aL ?_ | refine aU (hnn := by simp only [go_sem, reduceCtorEq, n6, n7, n8, n9, List.append_eq, List.cons_append, List.nil_append, i1, i4, List.getElem?_cons_succ, List.getElem?_cons_zero]) ?_ | refine aM ?_ | refine aN ?_ | refine aR ?_); simp only [go_sem, reduceCtorEq, n6, n7, n8, n9, List.append_eq, List.cons_append, List.nil_append, i1, i4, List.getElem?_cons_succ, List.getElem?_cons_zero]) | refine wT ?_ | refine wF ?_ | refine wC (fun h => ?_) (fun h => ?_) | refine iK ?_ | refine aI2 ?_ | (refine hK _ ?_; clear hK K) | clear hK K)
  refine AX.gcall [1, 2] rfl rfl (c45) (by simp only [go_sem, reduceCtorEq, rnEs_rcE]) (by simp only [go_sem, reduceCtorEq, rnEs_rcE]) rfl rfl (by simp only [go_sem, Obj.owns]) rfl (by simp only [go_sem, Obj.owns]) rfl rfl ?_
  simp only [go_sem, reduceCtorEq, rnEs_rcE]
  repeat' (first | refine W.seq fun K hK => ?_ | refine W.block ?_ | ((first | refine wR ?_ | refine wD ?_ | refine W.skip ?_ | refine W.exit ?_ | refine W.ret (Post.ret ?_) | refine aP ?_ | refine aF ?_ | refine aL ?_ | refine aU (hnn := by simp only [go_sem, reduceCtorEq, hlen, n9, List.length_map]) ?_ | refine aM ?_ | refine aN ?_ | refine aR ?_); simp only [go_sem, reduceCtorEq, hlen, n9, List.length_map]) | refine wT ?_ | refine wF ?_ | refine wC (fun h => ?_) (fun h => ?_) | refine iK ?_ | refine aI2 ?_ | (refine hK _ ?_; clear hK K) | clear hK K)
end Go.Proofs.YtigenjeealkdlaaGreat
