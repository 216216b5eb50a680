/-
  CriticalTiles: at every story and every span of its first trace the law answers true: the path tiles the span's time, all lengths are positive and add up to the duration, and only descendants have segments.
-/
import Derived.Test.YtaaflhmfhnfjhaaGreatM10
import Derived.Test.YtaaflhmfhnfjhaaGreatM11
namespace Go.Proofs.YtaaflhmfhnfjhaaGreat
open Go.RowKit Go.Exe
set_option linter.unusedVariables false
set_option linter.unusedSimpArgs false
set_option maxHeartbeats 8000000
set_option maxRecDepth 100000
/-! ### CriticalShifts -/
abbrev off4 (a b c d : Int) : List Of := [(1, a), (2, b), (3, c), (4, d)]
/-- The times of a story's spans are small. -/
theorem at_small {s : Sto} {t : Tre} (h8 : t.cs.length ≤ 8) {x : Spn} (hx : x ∈ trcS s 0 t) (e : Bool) : -1000 < atS x e ∧ atS x e < 3000 := by
  obtain ⟨i, c, hi, rfl⟩ := trcS_mem hx
  have b := offC_b s (1 + c.cl % 4)
  have h1 := getD_le (stL_le h8) i
  have h2 := getD_le (enL_le h8) i
  have hby : -21 < byS s 0 i c ∧ byS s 0 i c < 521 := by unfold byS; split <;> omega
  cases e
  · show -1000 < (((stL t).getD i 0 : Nat) : Int) + byS s 0 i c ∧ (((stL t).getD i 0 : Nat) : Int) + byS s 0 i c < 3000
    omega
  · show -1000 < (((enL t).getD i 0 : Nat) : Int) + byS s 0 i c ∧ (((enL t).getD i 0 : Nat) : Int) + byS s 0 i c < 3000
    omega
theorem offI_4 (a b c d : Int) (k : Nat) (hk : k < 4) : offI (off4 a b c d) ((1 + k : Nat) : Int) = if k = 0 then a else if k = 1 then b else if k = 2 then c else d := by
  rcases k with _ | _ | _ | _ | k
  · simp [offI]
  · simp [offI]
  · simp [offI]
  · simp [offI]
  · omega
theorem tim4 {s : Sto} {t : Tre} (h8 : t.cs.length ≤ 8) {x : Spn} (hx : x ∈ trcS s 0 t) (e : Bool) {a b c d : Int} (ha : -100000 ≤ a ∧ a ≤ 100000) (hb : -100000 ≤ b ∧ b ≤ 100000) (hc : -100000 ≤ c ∧ c ≤ 100000) (hd : -100000 ≤ d ∧ d ≤ 100000) :
    timM (trcS s 0 t) (off4 a b c d) (evOf x e) = atS x e - offI (off4 a b c d) x.clk := by
  rw [timM_is _ (nodup_sorted (trcS_sorted s 0 t)) hx e]
  have h1 := at_small h8 hx e
  obtain ⟨i, y, hi, rfl⟩ := trcS_mem hx
  have h4 : y.cl % 4 < 4 := Nat.mod_lt _ (by omega)
  have h5 := offI_4 a b c d (y.cl % 4) h4
  have h6 : (spnS s 0 t i y).clk = ((1 + y.cl % 4 : Nat) : Int) := rfl
  rw [h6, h5]
  exact w64 (by split <;> (try split) <;> (try split) <;> omega) (by split <;> (try split) <;> (try split) <;> omega)
/-- What 'turned' answers, for every turn of one story. -/
theorem turned_all (s : Sto) (hsB : s.okB) : (∀ u, u < 256 → PCall Tryz.prog 12 [stoT s, ft (.int .u8 (u : Nat))] (turnR none)) ∨
    ∃ t, s.ok ∧ turnT s = some t ∧ ∀ u, u < 256 → PCall Tryz.prog 12 [stoT s, ft (.int .u8 (u : Nat))] (turnR (some (rotL (trcS s 0 t) u, offT s 4))) := by
  cases hsh : shortS s with
  | false => exact .inl fun u _ => turned_c0 s hsh u
  | true =>
    have hs := hsB.ok hsh
    have c := fun u hu => turned_c s hs u hu
    unfold turnF at c
    cases ht : turnT s with
    | none => rw [ht] at c; exact .inl c
    | some t => rw [ht] at c; exact .inr ⟨t, hs, rfl, c⟩
attribute [local irreducible] W AX Run RunD AStep AOp AOpX AStB AStH AStG Fits PCall GCall PostG Post Stop
end Go.Proofs.YtaaflhmfhnfjhaaGreat
namespace Go.Proofs.YtaaflhmfhnfjhaaGreat
open Go.RowKit Go.Exe
set_option linter.unusedVariables false
set_option linter.unusedSimpArgs false
set_option maxHeartbeats 8000000
set_option maxRecDepth 100000
/-! ### CriticalTimes -/
theorem ordN_false {v : List Of} : ∀ {m : Nat}, ordN v m = false → ∀ n, 0 < n → n < m → leAt v n = false
  | 0, _, n, _, h => by omega
  | m + 1, h, n, h0, hn => by
    simp only [ordN, Bool.or_eq_false_iff, Bool.and_eq_false_iff] at h
    by_cases e : n = m
    · subst e
      rcases h.2 with h2 | h2
      · simp at h2; omega
      · exact h2
    · exact ordN_false h.1 n h0 (by omega)
theorem chk_ord {l : List Spn} {v : List Of} (h : chkE l v = 0) : ordN v v.length = false := by
  unfold chkE at h
  cases ho : ordN v v.length with
  | false => rfl
  | true => rw [ho] at h; simp at h
theorem chk_nd {l : List Spn} {v : List Of} (h : chkE l v = 0) : (v.map (·.1)).Nodup := by
  have ho := ordN_false (chk_ord h)
  have key : ∀ j (hj : j < v.length) i (hi : i < j), v[i].1 < v[j].1 := by
    intro j
    induction j with
    | zero => intro _ i hi; omega
    | succ j ih =>
      intro hj i hi
      have h1 := ho (j + 1) (by omega) hj
      unfold leAt at h1
      rw [List.getElem?_eq_getElem hj, show j + 1 - 1 = j by omega, List.getElem?_eq_getElem (by omega : j < v.length)] at h1
      have h2 := of_decide_eq_false h1
      by_cases e : i = j
      · subst e; omega
      · have := ih (by omega) i (by omega); omega
  rw [List.Nodup, List.pairwise_map, List.pairwise_iff_getElem]
  intro i j hi hj hij e
  have := key j hj i hij
  omega
theorem Trn.timE {l L : List Spn} {tr : Int} (h : Trn l L tr) {v : List Of} (hc : chkE l v = 0) (x : Ev) : timE l v x = if x.tr = tr then (if atI l x.id < 0 then none else some (timM l v x)) else none := by
  unfold Go.Proofs.YtaaflhmfhnfjhaaGreat.timE spOfR
  by_cases e : x.tr = tr
  · rw [if_pos e]
    have e1 : l.find? (fun s => s.tr == x.tr && s.id == x.id) = l.find? (fun s => s.id == x.id) := by
      have : ∀ m : List Spn, (∀ s ∈ m, s.tr = tr) → m.find? (fun s => s.tr == x.tr && s.id == x.id) = m.find? (fun s => s.id == x.id) := by
        intro m
        induction m with
        | nil => intro _; rfl
        | cons y m ih =>
          intro hm
          have h1 : (y.tr == x.tr) = true := by rw [beq_iff_eq, e]; exact hm y (by simp)
          rw [List.find?_cons, List.find?_cons, h1, Bool.true_and, ih fun s hs => hm s (by simp [hs])]
      exact this l h.trl
    simp only
    rw [e1]
    cases hf : l.findIdx? (fun s => s.id == x.id) with
    | none =>
      have h1 : l.find? (fun s => s.id == x.id) = none := by
        rw [List.find?_eq_none]
        rw [List.findIdx?_eq_none_iff] at hf
        exact fun y hy => by simpa using hf y hy
      have h2 : atI l x.id = -1 := by simp [atI, hf]
      rw [h1, h2, if_pos (by omega)]; rfl
    | some i =>
      obtain ⟨h4, h5, _⟩ := List.findIdx?_eq_some_iff_getElem.1 hf
      have hk := List.getElem?_eq_getElem h4
      have h2 : atI l x.id = (i : Nat) := by simp [atI, hf]
      have h3 : timM l v x = IntKind.i64.wrap (atS l[i] x.en - offI v l[i].clk) := by simp only [timM, hf, hk]
      rw [h2, if_neg (by omega), h3]
      cases hs : l.find? (fun s => s.id == x.id) with
      | none =>
        rw [List.find?_eq_none] at hs
        exact absurd h5 (hs _ (List.getElem_mem h4))
      | some s =>
        have h6 := List.find?_some hs
        have h7 := List.mem_of_find?_eq_some hs
        have he := id_eq h.ndl h7 (List.getElem_mem h4) (by
          have a1 : s.id = x.id := by simpa using h6
          have a2 : l[i].id = x.id := by simpa using h5
          rw [a1, a2])
        rw [he, Option.map_some, off_eq (chk_nd hc)]
  · rw [if_neg e]
    have : l.find? (fun s => s.tr == x.tr && s.id == x.id) = none := by
      rw [List.find?_eq_none]
      intro s hs
      have := h.trl s hs
      have : ¬ s.tr = x.tr := fun e2 => e (by rw [← e2, this])
      simp [this]
    simp only
    rw [this]; rfl
attribute [local irreducible] W AX Run RunD AStep AOp AOpX AStB AStH AStG Fits PCall GCall PostG Post Stop
end Go.Proofs.YtaaflhmfhnfjhaaGreat
namespace Go.Proofs.YtaaflhmfhnfjhaaGreat
open Go.RowKit Go.Exe
set_option linter.unusedVariables false
set_option linter.unusedSimpArgs false
set_option maxHeartbeats 8000000
set_option maxRecDepth 100000
/-! ### CriticalLengths -/
def badE (l : List Spn) (tr : Int) (x : Ev) : Bool := decide (atI l x.id < 0) || (x.tr != tr)
def badG (l : List Spn) (tr : Int) (g : Sg) : Bool := badE l tr g.fr || badE l tr g.to
def lenM (l : List Spn) (v : List Of) (g : Sg) : Int := IntKind.i64.wrap (timM l v g.to - timM l v g.fr)
theorem Trn.timE2 {l L : List Spn} {tr : Int} (h : Trn l L tr) {v : List Of} (hc : chkE l v = 0) (x : Ev) : Go.Proofs.YtaaflhmfhnfjhaaGreat.timE l v x = if badE l tr x then none else some (timM l v x) := by
  rw [h.timE hc]
  unfold badE
  by_cases h1 : x.tr = tr
  · by_cases h2 : atI l x.id < 0
    · simp [h1, h2]
    · simp [h1, h2]
  · simp [h1]
theorem Trn.lenS {l L : List Spn} {tr : Int} (h : Trn l L tr) {v : List Of} (hc : chkE l v = 0) : ∀ p : List Sg, Go.Proofs.YtaaflhmfhnfjhaaGreat.lenS l v p = if p.any (badG l tr) then none else some (p.map (lenM l v))
  | [] => rfl
  | g :: p => by
    simp only [Go.Proofs.YtaaflhmfhnfjhaaGreat.lenS, h.timE2 hc, Trn.lenS h hc p, List.any_cons, List.map_cons, badG]
    cases badE l tr g.fr with
    | true => simp
    | false =>
      cases badE l tr g.to with
      | true => simp
      | false =>
        simp only [Bool.false_eq_true, if_false, Bool.or_false, Bool.false_or]
        by_cases hp : p.any (fun g => badE l tr g.fr || badE l tr g.to) = true
        · have : p.any (badG l tr) = true := hp
          simp [this]
        · have : p.any (badG l tr) = false := by rw [Bool.not_eq_true] at hp; exact hp
          simp [this, lenM]
attribute [local irreducible] W AX Run RunD AStep AOp AOpX AStB AStH AStG Fits PCall GCall PostG Post Stop
end Go.Proofs.YtaaflhmfhnfjhaaGreat
namespace Go.Proofs.YtaaflhmfhnfjhaaGreat
open Go.RowKit Go.Exe
set_option linter.unusedVariables false
set_option linter.unusedSimpArgs false
/-! ### the law of the walk: its segments tile the time, and where one is, no blocking child runs -/
def TilQ (tm : Ev → Int) : List Sg → Ev → Ev → Prop
  | [], lo, cur => lo = cur
  | g :: q, lo, cur => g.to = cur ∧ tm g.fr < tm cur ∧ TilQ tm q lo g.fr
theorem TilQ.app {tm : Ev → Int} : ∀ {q1 q2 : List Sg} {lo m cur : Ev}, TilQ tm q1 m cur → TilQ tm q2 lo m → TilQ tm (q1 ++ q2) lo cur
  | [], _, _, _, _, h1, h2 => by cases h1; exact h2
  | g :: q, _, _, _, _, h1, h2 => ⟨h1.1, h1.2.1, TilQ.app h1.2.2 h2⟩
/-- From a span up to another one. -/
inductive Dsc (L : List Spn) (s : Spn) : Spn → Prop
  | refl : Dsc L s s
  | step {x y : Spn} : Dsc L s y → x ∈ L → x.pa = y.id → Dsc L s x
theorem Dsc.trans {L : List Spn} {s c x : Spn} (h : Dsc L c x) (hc : Dsc L s c) : Dsc L s x := by
  induction h with
  | refl => exact hc
  | step _ h2 h3 ih => exact .step ih h2 h3
def quaB (tm : Ev → Int) (lo cur : Ev) (k : Spn) : Prop := tm (evOf k false) < tm cur ∧ tm lo < tm (evOf k true) ∧ tm (evOf k false) < tm (evOf k true)
def untE (tm : Ev → Int) (cur : Ev) (k : Spn) : Ev := if tm (evOf k true) < tm cur then evOf k true else cur
section
variable {tm : Ev → Int} {bf : Ev → Ev → Bool} (hbf : ∀ x y, bf x y = decide (tm x < tm y))
include hbf
theorem askB_is (x y : Ev) : askB bf x y = decide (tm x < tm y) := by
  unfold askB
  rw [hbf]
  by_cases h : x = y
  · subst h; simp
  · simp [h]
theorem chStep_is (lo cur : Ev) (acc : Option (Spn × Ev)) (k : Spn) : (quaB tm lo cur k ∧ chStep bf lo cur acc k = (match acc with
      | none => some (k, untE tm cur k)
      | some y => if tm y.2 < tm (untE tm cur k) then some (k, untE tm cur k) else some y)) ∨ (¬ quaB tm lo cur k ∧ chStep bf lo cur acc k = acc) := by
  rw [chStep_eq]
  simp only [askB_is hbf]
  by_cases h : quaB tm lo cur k
  · refine .inl ⟨h, ?_⟩
    obtain ⟨h1, h2, h3⟩ := h
    rw [if_pos (by simp [h1, h2, h3])]
    have hu : (if decide (tm (evOf k true) < tm cur) = true then evOf k true else cur) = untE tm cur k := by
      unfold untE
      by_cases h4 : tm (evOf k true) < tm cur <;> simp [h4]
    rw [hu]
    cases acc with
    | none => rfl
    | some y =>
      simp only
      by_cases h5 : tm y.2 < tm (untE tm cur k) <;> simp [h5]
  · refine .inr ⟨h, ?_⟩
    rw [if_neg]
    intro h2
    simp only [Bool.and_eq_true, decide_eq_true_eq] at h2
    exact h ⟨h2.1.1, h2.1.2, h2.2⟩
theorem chooseF_law (lo cur : Ev) : ∀ (l : List Spn) (acc : Option (Spn × Ev)) (r : Option (Spn × Ev)), l.foldl (chStep bf lo cur) acc = r →
    (r = none → acc = none ∧ ∀ k ∈ l, ¬ quaB tm lo cur k) ∧
    (∀ y, r = some y → (acc = some y ∨ (y.1 ∈ l ∧ quaB tm lo cur y.1 ∧ y.2 = untE tm cur y.1)) ∧ (∀ z, acc = some z → tm z.2 ≤ tm y.2) ∧ ∀ k ∈ l, quaB tm lo cur k → tm (untE tm cur k) ≤ tm y.2)
  | [], acc, r, h => by
    cases h
    exact ⟨fun h => ⟨h, fun k hk => by simp at hk⟩, fun y hy => ⟨.inl hy, fun z hz => by have hy : acc = some y := hy; rw [hy] at hz; cases hz; exact Int.le_refl _, fun k hk => by simp at hk⟩⟩
  | k :: l, acc, r, h => by
    rw [List.foldl_cons] at h
    obtain ⟨i1, i2⟩ := chooseF_law lo cur l _ r h
    rcases chStep_is hbf lo cur acc k with ⟨hq, hs⟩ | ⟨hq, hs⟩
    · rw [hs] at i1 i2
      constructor
      · intro hr
        have := (i1 hr).1
        cases acc with
        | none => simp at this
        | some y => simp only at this; split at this <;> simp at this
      · intro y hy
        obtain ⟨j1, j2, j3⟩ := i2 y hy
        cases acc with
        | none =>
          simp only at j1 j2
          have hk := j2 _ rfl
          refine ⟨.inr ?_, fun z hz => by simp at hz, fun x hx hxq => ?_⟩
          · rcases j1 with j1 | ⟨a, b, c⟩
            · simp only [Option.some.injEq] at j1
              subst j1
              exact ⟨by simp, hq, rfl⟩
            · exact ⟨by simp [a], b, c⟩
          · rcases List.mem_cons.1 hx with rfl | hx
            · exact hk
            · exact j3 x hx hxq
        | some z =>
          simp only at j1 j2
          by_cases hlt : tm z.2 < tm (untE tm cur k)
          · rw [if_pos hlt] at j1 j2
            have hk := j2 _ rfl
            simp only at hk
            refine ⟨.inr ?_, fun w hw => by simp only [Option.some.injEq] at hw; subst hw; omega, fun x hx hxq => ?_⟩
            · rcases j1 with j1 | ⟨a, b, c⟩
              · simp only [Option.some.injEq] at j1
                subst j1
                exact ⟨by simp, hq, rfl⟩
              · exact ⟨by simp [a], b, c⟩
            · rcases List.mem_cons.1 hx with rfl | hx
              · exact hk
              · exact j3 x hx hxq
          · rw [if_neg hlt] at j1 j2
            have hk := j2 _ rfl
            refine ⟨?_, fun w hw => by simp only [Option.some.injEq] at hw; subst hw; exact hk, fun x hx hxq => ?_⟩
            · rcases j1 with j1 | ⟨a, b, c⟩
              · exact .inl j1
              · exact .inr ⟨by simp [a], b, c⟩
            · rcases List.mem_cons.1 hx with rfl | hx
              · omega
              · exact j3 x hx hxq
    · rw [hs] at i1 i2
      constructor
      · intro hr
        refine ⟨(i1 hr).1, fun x hx => ?_⟩
        rcases List.mem_cons.1 hx with rfl | hx
        · exact hq
        · exact (i1 hr).2 x hx
      · intro y hy
        obtain ⟨j1, j2, j3⟩ := i2 y hy
        refine ⟨?_, j2, fun x hx hxq => ?_⟩
        · rcases j1 with j1 | ⟨a, b, c⟩
          · exact .inl j1
          · exact .inr ⟨by simp [a], b, c⟩
        · rcases List.mem_cons.1 hx with rfl | hx
          · exact absurd hxq hq
          · exact j3 x hx hxq
/-- What is true of a segment: whose it is, that it lies in its time, and that no child of it runs meanwhile. -/
structure SegOk (L : List Spn) (kid : Int → List Spn) (tm : Ev → Int) (s : Spn) (g : Sg) (x : Spn) : Prop where
  mem : x ∈ L
  sp : g.sp = (x.tr, x.id)
  dsc : Dsc L s x
  fr : tm (evOf x false) ≤ tm g.fr
  to : tm g.to ≤ tm (evOf x true)
  lt : tm g.fr < tm g.to
  free : ∀ k ∈ kid x.id, ¬ (tm (evOf k false) < tm g.to ∧ tm g.fr < tm (evOf k true) ∧ tm (evOf k false) < tm (evOf k true))
theorem wkF_law {L : List Spn} {kid : Int → List Spn} (hkid : ∀ k, ∀ z ∈ kid k, z ∈ L ∧ z.pa = k) : ∀ (n : Nat) (s : Spn) (lo cur : Ev) (q : List Sg), s ∈ L → wkF bf kid n s lo cur = some q → tm (evOf s false) ≤ tm lo → tm cur ≤ tm (evOf s true) →
    (tm lo < tm cur → TilQ tm q lo cur) ∧ (¬ tm lo < tm cur → q = []) ∧ ∀ g ∈ q, ∃ x, SegOk L kid tm s g x := by
  intro n
  induction n with
  | zero => intro s lo cur q _ h; simp [wkF] at h
  | succ n ih =>
    intro s lo cur q hsL h hlo hcur
    by_cases hA : tm lo < tm cur
    · have hA2 : askB bf lo cur = true := by rw [askB_is hbf]; simp [hA]
      cases hC : chooseF bf (kid s.id) lo cur with
      | none =>
        have hq := wkF_none h hA2 hC
        subst hq
        have hl := ((chooseF_law hbf lo cur (kid s.id) none none hC).1 rfl).2
        refine ⟨fun _ => ⟨rfl, hA, rfl⟩, fun hn => absurd hA hn, fun g hg => ?_⟩
        simp only [List.mem_singleton] at hg
        subst hg
        exact ⟨s, hsL, rfl, .refl, hlo, hcur, hA, fun k hk hx => hl k hk hx⟩
      | some y =>
        obtain ⟨c, v⟩ := y
        obtain ⟨q1, q2, hw1, hw2, rfl⟩ := wkF_some h hA2 hC
        obtain ⟨j1, _, j3⟩ := (chooseF_law hbf lo cur (kid s.id) none _ hC).2 _ rfl
        rcases j1 with j1 | ⟨hcm, hcq, hv⟩
        · simp at j1
        simp only at hcm hcq hv j3
        obtain ⟨hcL, hcp⟩ := hkid _ c hcm
        obtain ⟨g1, g2, g3⟩ := hcq
        have hbE : (if askB bf lo (evOf c false) = true then evOf c false else lo) = if tm lo < tm (evOf c false) then evOf c false else lo := by
          rw [askB_is hbf]; by_cases hx : tm lo < tm (evOf c false) <;> simp [hx]
        rw [hbE] at hw1 hw2
        obtain ⟨b, hb⟩ : ∃ b, b = if tm lo < tm (evOf c false) then evOf c false else lo := ⟨_, rfl⟩
        rw [← hb] at hw1 hw2
        have hvt : tm v ≤ tm cur ∧ tm v ≤ tm (evOf c true) ∧ (v = cur ∨ (v = evOf c true ∧ tm v < tm cur)) := by
          rw [hv]; unfold untE
          by_cases hx : tm (evOf c true) < tm cur
          · rw [if_pos hx]; exact ⟨by omega, by omega, .inr ⟨rfl, hx⟩⟩
          · rw [if_neg hx]; exact ⟨by omega, by omega, .inl rfl⟩
        have hv2 : tm v = tm cur ∨ tm v = tm (evOf c true) := by
          rcases hvt.2.2 with e | ⟨e, _⟩
          · exact .inl (by rw [e])
          · exact .inr (by rw [e])
        have hbt : tm (evOf c false) ≤ tm b ∧ tm lo ≤ tm b ∧ (b = lo ∨ (b = evOf c false ∧ tm lo < tm b)) ∧ (tm b = tm lo ∨ tm b = tm (evOf c false)) := by
          rw [hb]
          by_cases hx : tm lo < tm (evOf c false)
          · rw [if_pos hx]; exact ⟨by omega, by omega, .inr ⟨rfl, hx⟩, .inr rfl⟩
          · rw [if_neg hx]; exact ⟨by omega, by omega, .inl rfl, .inl rfl⟩
        have hbv : tm b < tm v := by
          rcases hv2 with e | e <;> rcases hbt.2.2.2 with e2 | e2 <;> omega
        obtain ⟨t1, _, s1⟩ := ih c b v q1 hcL hw1 hbt.1 hvt.2.1
        obtain ⟨t2, n2, s2⟩ := ih s lo b q2 hsL hw2 hlo (by omega)
        have t1 := t1 hbv
        have t2 : TilQ tm q2 lo b := by
          rcases hbt.2.2.1 with e | ⟨_, e⟩
          · have := n2 (by rw [e]; omega)
            rw [this]; exact e.symm
          · exact t2 e
        have hloV : tm lo < tm v := by omega
        refine ⟨fun _ => ?_, fun hn => absurd hA hn, fun g hg => ?_⟩
        · have t3 : TilQ tm (q1 ++ q2) lo v := t1.app t2
          rcases hvt.2.2 with e | ⟨e, e2⟩
          · rw [if_pos e, List.nil_append, ← e]; exact t3
          · rw [if_neg (fun e3 => by rw [e3] at e2; omega)]
            exact ⟨rfl, e2, t3⟩
        · rw [List.append_assoc, List.mem_append, List.mem_append] at hg
          rcases hg with hg | hg | hg
          · split at hg
            · simp at hg
            · rename_i hne
              simp only [List.mem_singleton] at hg
              subst hg
              have e2 : tm v < tm cur := by
                rcases hvt.2.2 with e | ⟨_, e⟩
                · exact absurd e hne
                · exact e
              refine ⟨s, hsL, rfl, .refl, by show tm (evOf s false) ≤ tm v; omega, hcur, e2, fun k hk hx => ?_⟩
              obtain ⟨x1, x2, x3⟩ := hx
              simp only at x1 x2
              have := j3 k hk ⟨x1, by omega, x3⟩
              unfold untE at this
              split at this <;> omega
          · obtain ⟨x, hx⟩ := s1 g hg
            exact ⟨x, hx.mem, hx.sp, hx.dsc.trans (.step .refl hcL hcp), hx.fr, hx.to, hx.lt, hx.free⟩
          · exact s2 g hg
    · have hA2 : askB bf lo cur = false := by rw [askB_is hbf]; simp [hA]
      have hq := wkF_no h hA2
      subst hq
      exact ⟨fun h => absurd h hA, fun _ => rfl, fun g hg => by simp at hg⟩
end
end Go.Proofs.YtaaflhmfhnfjhaaGreat
namespace Go.Proofs.YtaaflhmfhnfjhaaGreat
open Go.RowKit Go.Exe
set_option linter.unusedVariables false
set_option linter.unusedSimpArgs false
set_option maxHeartbeats 8000000
set_option maxRecDepth 100000
/-! ### the path of a story's span -/
def TilP (tm : Ev → Int) : List Sg → Ev → Ev → Prop
  | [], lo, cur => lo = cur
  | g :: p, lo, cur => g.fr = lo ∧ tm g.fr < tm g.to ∧ TilP tm p g.to cur
theorem TilP.snoc {tm : Ev → Int} : ∀ {p : List Sg} {g : Sg} {lo cur : Ev}, TilP tm p lo g.fr → g.to = cur → tm g.fr < tm cur → TilP tm (p ++ [g]) lo cur
  | [], g, lo, cur, h, h2, h3 => by cases h; exact ⟨rfl, by rw [h2]; exact h3, h2⟩
  | _ :: _, _, _, _, h, h2, h3 => ⟨h.1, h.2.1, TilP.snoc h.2.2 h2 h3⟩
theorem TilQ.rev {tm : Ev → Int} : ∀ {q : List Sg} {lo cur : Ev}, TilQ tm q lo cur → TilP tm q.reverse lo cur
  | [], _, _, h => h
  | g :: q, lo, cur, h => by
    rw [List.reverse_cons]
    exact (TilQ.rev h.2.2).snoc h.1 h.2.1
theorem wkF_ev {bf : Ev → Ev → Bool} {kid : Int → List Spn} {E : Ev → Prop} (hE : ∀ k, ∀ z ∈ kid k, E (evOf z false) ∧ E (evOf z true)) : ∀ {n : Nat} {s : Spn} {lo cur : Ev} {q : List Sg}, wkF bf kid n s lo cur = some q → E lo → E cur → ∀ g ∈ q, E g.fr ∧ E g.to
  | 0, _, _, _, _, h, _, _ => by simp [wkF] at h
  | n + 1, s, lo, cur, q, h, hlo, hcur => by
    cases hA : askB bf lo cur with
    | false => rw [wkF_no h hA]; intro g hg; simp at hg
    | true =>
      cases hC : chooseF bf (kid s.id) lo cur with
      | none =>
        rw [wkF_none h hA hC]
        intro g hg
        simp only [List.mem_singleton] at hg
        subst hg
        exact ⟨hlo, hcur⟩
      | some y =>
        obtain ⟨c, v⟩ := y
        obtain ⟨q1, q2, h1, h2, rfl⟩ := wkF_some h hA hC
        have hv : E v := (chooseF_congr (bf := bf) (bf' := bf) (E := E) (l := kid s.id) (fun _ _ _ _ => rfl) (fun c hc => hE _ c hc) hlo hcur).2 _ hC
        have hc := hE _ c (chooseF_mem hC)
        have hb : E (if askB bf lo (evOf c false) = true then evOf c false else lo) := by
          split
          · exact hc.1
          · exact hlo
        intro g hg
        rw [List.append_assoc, List.mem_append, List.mem_append] at hg
        rcases hg with hg | hg | hg
        · split at hg
          · simp at hg
          · simp only [List.mem_singleton] at hg
            subst hg
            exact ⟨hv, hcur⟩
        · exact wkF_ev hE h1 hb hv g hg
        · exact wkF_ev hE h2 hlo hb g hg
structure PthIs (L : List Spn) (v : List Of) (r : Spn) (p : List Sg) : Prop where
  til : timM L v (evOf r false) < timM L v (evOf r true) → TilP (timM L v) p (evOf r false) (evOf r true)
  nil : ¬ timM L v (evOf r false) < timM L v (evOf r true) → p = []
  seg : ∀ g ∈ p, ∃ x, SegOk L (kidL L) (timM L v) r g x
  ev : ∀ g ∈ p, g.fr ∈ evsL L ∧ g.to ∈ evsL L
theorem kidL_mem {L : List Spn} {k : Int} {z : Spn} (h : z ∈ kidL L k) : z ∈ L ∧ z.pa = k ∧ z.kd ≠ 5 := by
  obtain ⟨h1, h2⟩ := List.mem_filter.1 h
  simp only [Bool.and_eq_true, beq_iff_eq, bne_iff_ne] at h2
  exact ⟨h1, h2⟩
theorem Trn.pth {l L : List Spn} {tr : Int} (h : Trn l L tr) (v : List Of) {r : Spn} (hr : r ∈ L) : ∃ p, pthM L v r.id = (0, p) ∧ PthIs L v r p := by
  obtain ⟨q, hq⟩ := h.fuel v hr (evOf r false) (evOf r true)
  rw [h.sameM v 25 hr (evs_mem hr _) (evs_mem hr _)] at hq
  have hP : pthM L v r.id = (0, q.reverse) := by
    unfold pthM
    cases hs : Go.Proofs.YtaaflhmfhnfjhaaGreat.spId L r.id with
    | none =>
      unfold Go.Proofs.YtaaflhmfhnfjhaaGreat.spId at hs
      rw [List.find?_eq_none] at hs
      exact absurd (by simp) (hs r hr)
    | some s =>
      obtain ⟨h1, h2⟩ := spId_mem hs
      have he := id_eq h.nd h1 hr h2
      subst he
      simp only
      rw [hq]; rfl
  obtain ⟨l1, l2, l3⟩ := wkF_law (tm := timM L v) (bf := bfM L v) (fun _ _ => rfl) (L := L) (kid := kidL L) (fun k z hz => ⟨(kidL_mem hz).1, (kidL_mem hz).2.1⟩) 25 r _ _ q hr hq (Int.le_refl _) (Int.le_refl _)
  have l4 := wkF_ev (E := fun x => x ∈ evsL L) (fun k z hz => ⟨evs_mem (kidL_mem hz).1 _, evs_mem (kidL_mem hz).1 _⟩) hq (evs_mem hr _) (evs_mem hr _)
  refine ⟨q.reverse, hP, fun hlt => (l1 hlt).rev, fun hn => by rw [l2 hn]; rfl, fun g hg => l3 g (List.mem_reverse.1 hg), fun g hg => l4 g (List.mem_reverse.1 hg)⟩
/-- The times of a story are small. -/
theorem tim_small {s : Sto} {t : Tre} (h8 : t.cs.length ≤ 8) {x : Ev} (hx : x ∈ evsL (trcS s 0 t)) : -2000 < timM (trcS s 0 t) (offT s 4) x ∧ timM (trcS s 0 t) (offT s 4) x < 4000 := by
  have b1 := offC_b s 1
  have b2 := offC_b s 2
  have b3 := offC_b s 3
  have b4 := offC_b s 4
  obtain ⟨z, hz, hx⟩ := List.mem_flatMap.1 hx
  have key : ∀ e, -2000 < timM (trcS s 0 t) (offT s 4) (evOf z e) ∧ timM (trcS s 0 t) (offT s 4) (evOf z e) < 4000 := fun e => by
    rw [show offT s 4 = off4 (offC s 1) (offC s 2) (offC s 3) (offC s 4) from offT_4 s]
    rw [tim4 h8 hz e (by omega) (by omega) (by omega) (by omega)]
    have h1 := at_small h8 hz e
    obtain ⟨i, y, hi, rfl⟩ := trcS_mem hz
    have h4 : y.cl % 4 < 4 := Nat.mod_lt _ (by omega)
    have h5 := offI_4 (offC s 1) (offC s 2) (offC s 3) (offC s 4) (y.cl % 4) h4
    have h7 : (spnS s 0 t i y).clk = ((1 + y.cl % 4 : Nat) : Int) := rfl
    rw [h7, h5]
    split
    · omega
    · split
      · omega
      · split <;> omega
  simp only [List.mem_cons, List.not_mem_nil, or_false] at hx
  rcases hx with rfl | rfl
  · exact key false
  · exact key true
theorem tim_is {s : Sto} {t : Tre} (h8 : t.cs.length ≤ 8) {z : Spn} (hz : z ∈ trcS s 0 t) (e : Bool) : ∃ k : Nat, 1 ≤ k ∧ k ≤ 4 ∧ z.clk = ((k : Nat) : Int) ∧ timM (trcS s 0 t) (offT s 4) (evOf z e) = atS z e - offC s k := by
  have b1 := offC_b s 1
  have b2 := offC_b s 2
  have b3 := offC_b s 3
  have b4 := offC_b s 4
  rw [show offT s 4 = off4 (offC s 1) (offC s 2) (offC s 3) (offC s 4) from offT_4 s]
  rw [tim4 h8 hz e (by omega) (by omega) (by omega) (by omega)]
  obtain ⟨i, y, hi, rfl⟩ := trcS_mem hz
  have h4 : y.cl % 4 < 4 := Nat.mod_lt _ (by omega)
  have h5 := offI_4 (offC s 1) (offC s 2) (offC s 3) (offC s 4) (y.cl % 4) h4
  have h7 : (spnS s 0 t i y).clk = ((1 + y.cl % 4 : Nat) : Int) := rfl
  refine ⟨1 + y.cl % 4, by omega, by omega, h7, ?_⟩
  rw [h7, h5]
  generalize y.cl % 4 = k at *
  rcases k with _ | _ | _ | _ | k
  · rfl
  · rfl
  · rfl
  · rfl
  · omega
theorem getD_set_max (L : List Nat) (p i v : Nat) : (L.getD i 0) ≤ (L.set p (max (L.getD p 0) v)).getD i 0 := by
  simp only [List.getD_eq_getElem?_getD, List.getElem?_set]
  by_cases h : p = i
  · subst h
    by_cases hp : p < L.length
    · simp [hp]; omega
    · simp [hp, List.getElem?_eq_none (by omega : L.length ≤ p)]
  · simp [h]
theorem enG_ge (t : Tre) : ∀ (n : Nat) (L : List Nat) (i : Nat), L.getD i 0 ≤ (enG t n L).getD i 0
  | 0, L, i => by simp [enG]
  | n + 1, L, i => by
    rw [enG]
    refine Nat.le_trans ?_ (enG_ge t n _ i)
    unfold stepE
    split
    · exact getD_set_max _ _ _ _
    · exact Nat.le_refl _
theorem st_le_en (t : Tre) (i : Nat) (hi : i < t.cs.length) : (stL t).getD i 0 ≤ (enL t).getD i 0 := by
  have key : ∀ n, n ≤ t.cs.length → ∀ i, i < n → (stF t n).getD i 0 ≤ (enF t n).getD i 0 := by
    intro n
    induction n with
    | zero => intro _ i h; omega
    | succ n ih =>
      intro hn i hin
      have hc := List.getElem?_eq_getElem (by omega : n < t.cs.length)
      rw [stF_at hc, enF_at hc]
      have l1 := stF_len t n (by omega)
      have l2 := enF_len t n (by omega)
      simp only [List.getD_eq_getElem?_getD] at ih ⊢
      by_cases h : i < n
      · rw [List.getElem?_append_left (by omega), List.getElem?_append_left (by omega)]
        exact ih (by omega) i h
      · obtain rfl : i = n := by omega
        rw [List.getElem?_append_right (by omega), List.getElem?_append_right (by omega), l1, l2, Nat.sub_self]
        simp
  exact Nat.le_trans (key _ (Nat.le_refl _) i hi) (enG_ge t _ _ i)
theorem story_st_en {s : Sto} {t : Tre} {z : Spn} (hz : z ∈ trcS s 0 t) : z.st ≤ z.en := by
  obtain ⟨i, c, hi, rfl⟩ := trcS_mem hz
  have h := st_le_en t i (List.getElem?_eq_some_iff.1 hi).1
  show (((stL t).getD i 0 : Nat) : Int) + byS s 0 i c ≤ (((enL t).getD i 0 : Nat) : Int) + byS s 0 i c
  omega
/-! ### below -/
def blwF (l : List Spn) (root : Int) : Nat → Int → Bool
  | 0, _ => false
  | n + 1, id => if id = root then true else match l.findIdx? (fun x => x.id == id) with
    | none => false
    | some k => match l[k]? with
      | some s => blwF l root n s.pa
      | none => false
theorem Dsc.mem {L : List Spn} {s x : Spn} (h : Dsc L s x) (hs : s ∈ L) : x ∈ L := by
  cases h with
  | refl => exact hs
  | step _ h2 _ => exact h2
theorem Trn.blw {l L : List Spn} {tr : Int} (h : Trn l L tr) {s x : Spn} (hs : s ∈ L) (hd : Dsc L s x) : blwF l s.id (l.length + 1) x.id = true := by
  have key : ∃ k, (∀ d, s.id ∈ Go.Proofs.YtaaflhmfhnfjhaaGreat.lev L d → x.id ∈ Go.Proofs.YtaaflhmfhnfjhaaGreat.lev L (d + k)) ∧ ∀ n, k < n → blwF l s.id n x.id = true := by
    induction hd with
    | refl =>
      refine ⟨0, fun d hd => hd, fun n hn => ?_⟩
      obtain ⟨m, rfl⟩ : ∃ m, n = m + 1 := ⟨n - 1, by omega⟩
      simp [blwF]
    | @step x y h1 h2 h3 ih =>
      obtain ⟨k, k1, k2⟩ := ih
      have hy := h1.mem hs
      refine ⟨k + 1, fun d hd => ?_, fun n hn => ?_⟩
      · rw [← Nat.add_assoc, Go.Proofs.YtaaflhmfhnfjhaaGreat.lev, List.mem_flatMap]
        exact ⟨_, k1 d hd, mem_kids.2 ⟨x, h2, rfl, h3, by rw [h3]; exact h.pos y hy⟩⟩
      · obtain ⟨m, rfl⟩ : ∃ m, n = m + 1 := ⟨n - 1, by omega⟩
        rw [blwF]
        by_cases e : x.id = s.id
        · rw [if_pos e]
        · rw [if_neg e]
          have hxl := h.perm.mem_iff.1 h2
          cases hf : l.findIdx? (fun z => z.id == x.id) with
          | none =>
            rw [List.findIdx?_eq_none_iff] at hf
            have := hf x hxl
            simp at this
          | some j =>
            obtain ⟨h4, h5, _⟩ := List.findIdx?_eq_some_iff_getElem.1 hf
            have he := id_eq h.ndl (List.getElem_mem h4) hxl (by simpa using h5)
            simp only [List.getElem?_eq_getElem h4, he, h3]
            exact k2 m (by omega)
  obtain ⟨k, k1, k2⟩ := key
  obtain ⟨d, hd⟩ := h.lev s hs
  have := dep_lt h.nd (List.ne_nil_of_mem (k1 d hd))
  have hl := h.perm.length_eq
  exact k2 _ (by omega)
attribute [local irreducible] W AX Run RunD AStep AOp AOpX AStB AStH AStG Fits PCall GCall PostG Post Stop
theorem below_c (l : List Spn) (id root : Int) : PCall Tryz.prog 26 [spsT l, ft (.int .i64 id), ft (.int .i64 root)] (ft (.bool (blwF l root (l.length + 1) id))) := by
  have c18 := fun id => at18_c l id
  refine PCall.intro (nt := 28) (rs := [.tmp 6]) Tryz.func26 rfl ⟨by kernel_rfl, by kernel_rfl, by kernel_rfl⟩ (by simp) ?_
  rintro ⟨P, w0, ok0, may, np, pblk⟩ rfl rfl
  refine W.lenB 0 rfl tE36 fun hl0 hl1 => ?_
  rw [List.length_map] at hl1
  repeat' (first | ((show W _ _ _ _); first | refine W.seq fun K hK => ?_ | refine W.block ?_ | ((first | refine wR ?_ | refine wD ?_ | refine W.skip ?_ | refine W.exit ?_ | refine W.ret (Post.ret ?_)); simp only [go_sem, reduceCtorEq]) | refine wT ?_ | refine wF ?_ | refine wC (fun h => ?_) (fun h => ?_)) | ((show AX _ _ _ _ _); (first | refine aP ?_ | refine aF ?_); simp only [go_sem, reduceCtorEq]) | refine iK ?_ | refine aI2 ?_ | (refine hK _ ?_; clear hK K) | clear hK K)
  refine W.loopF (T := fun x : Nat × Int => { t := [(0, spsT l), (1, ft (.int .i64 x.2)), (2, ft (.int .i64 root)), (7, ft (.int .i64 (x.1 : Nat)))], h := [], nx := 0, ex := [], nt := 28 })
    (Inv := fun x => x.1 ≤ l.length + 1 ∧ blwF l root (l.length + 1) id = blwF l root (l.length + 1 - x.1) x.2) (μ := fun x => l.length + 1 - x.1) (x0 := (0, id)) (Fits.fit [] [0, 1, 2, 7] 0 rfl rfl ?_) ⟨Nat.zero_le _, rfl⟩ ?_
  · simp only [go_sem]
    exact Fits.rfl
  rintro ⟨i, x⟩ ⟨hi, hinv⟩ KL hKL
  simp only at hi hinv
  by_cases hlt : i ≤ l.length
  · have e1 : decide ((i : Int) ≤ l.length) = true := by simp; omega
    have hw := w64s i (by omega)
    have a1 := c18 x
    have hb : blwF l root (l.length - i + 1) x = if x = root then true else match l.findIdx? (fun z => z.id == x) with
      | none => false
      | some k => match l[k]? with
        | some s => blwF l root (l.length - i) s.pa
        | none => false := by rw [blwF]
    rw [show l.length + 1 - i = (l.length - i) + 1 by omega, hb] at hinv
    clear c18
    by_cases hx : x = root
    · have e2 : (x == root) = true := by rw [beq_iff_eq]; exact hx
      rw [if_pos hx] at hinv
      clear hKL
      repeat' (first | ((show W _ _ _ _); first | refine W.seq fun K hK => ?_ | refine W.block ?_ | ((first | refine wR ?_ | refine wD ?_ | refine W.skip ?_ | refine W.exit ?_ | refine W.ret (Post.ret ?_)); simp only [go_sem, reduceCtorEq, e1, e2, hinv, List.length_map]) | refine wT ?_ | refine wF ?_ | refine wC (fun h => ?_) (fun h => ?_)) | ((show AX _ _ _ _ _); (first | refine aP ?_ | refine aF ?_); simp only [go_sem, reduceCtorEq, e1, e2, hinv, List.length_map]) | refine iK ?_ | refine aI2 ?_ | (refine hK _ ?_; clear hK K) | clear hK K)
    · have e2 : (x == root) = false := by rw [beq_eq_false_iff_ne]; exact hx
      rw [if_neg hx] at hinv
      cases hk : l.findIdx? (fun z => z.id == x) with
      | none =>
        have ha : atI l x = -1 := by simp [atI, hk]
        rw [ha] at a1
        rw [hk] at hinv
        simp only at hinv
        have e3 : decide ((-1 : Int) < 0) = true := by decide
        clear hKL
        repeat' (first | ((show W _ _ _ _); first | refine W.seq fun K hK => ?_ | refine W.block ?_ | ((first | refine wR ?_ | refine wD ?_ | refine W.skip ?_ | refine W.exit ?_ | refine W.ret (Post.ret ?_)); simp only [go_sem, reduceCtorEq, e1, e2, e3, hinv, List.length_map]) | refine wT ?_ | refine wF ?_ | refine wC (fun h => ?_) (fun h => ?_)) | ((show AX _ _ _ _ _); (first | refine aP ?_ | refine aF ?_); simp only [go_sem, reduceCtorEq, e1, e2, e3, hinv, List.length_map]) | refine iK ?_ | refine aI2 ?_ | (refine hK _ ?_; clear hK K) | clear hK K)
      | some k =>
        have hkl := (List.findIdx?_eq_some_iff_getElem.1 hk).1
        have hkx := List.getElem?_eq_getElem hkl
        have ha : atI l x = (k : Nat) := by simp [atI, hk]
        rw [ha] at a1
        rw [hk] at hinv
        generalize l[k] = s at *
        simp only [hkx] at hinv
        have e3 : decide (((k : Nat) : Int) < 0) = false := by simp
        have e4 : decide (k < l.length) = true := by simp [hkl]
        repeat' (first | ((show W _ _ _ _); first | refine W.seq fun K hK => ?_ | refine W.block ?_ | ((first | refine wR ?_ | refine wD ?_ | refine W.skip ?_ | refine W.exit ?_ | refine W.ret (Post.ret ?_)); simp only [go_sem, reduceCtorEq, e1, e2, e3, e4, hw, List.getElem?_map, hkx, spA, List.length_map]) | refine wT ?_ | refine wF ?_ | refine wC (fun h => ?_) (fun h => ?_)) | ((show AX _ _ _ _ _); (first | refine aP ?_ | refine aF ?_); simp only [go_sem, reduceCtorEq, e1, e2, e3, e4, hw, List.getElem?_map, hkx, spA, List.length_map]) | refine iK ?_ | refine aI2 ?_ | (refine hK _ ?_; clear hK K) | clear hK K)
        refine hKL.to (i + 1, s.pa) ⟨by simp only; omega, by simp only; rw [hinv]; congr 1; omega⟩ (by simp only; omega) (Fits.fit [] [0, 1, 2, 7] 0 rfl rfl ?_)
        simp only [go_sem]
        exact Fits.rfl
  · obtain rfl : i = l.length + 1 := by omega
    have e1 : decide (((l.length + 1 : Nat) : Int) ≤ l.length) = false := by simp; omega
    rw [Nat.sub_self, show blwF l root 0 x = false from rfl] at hinv
    clear hKL
    repeat' (first | ((show W _ _ _ _); first | refine W.seq fun K hK => ?_ | refine W.block ?_ | ((first | refine wR ?_ | refine wD ?_ | refine W.skip ?_ | refine W.exit ?_ | refine W.ret (Post.ret ?_)); simp only [go_sem, reduceCtorEq, e1, hinv, List.length_map]) | refine wT ?_ | refine wF ?_ | refine wC (fun h => ?_) (fun h => ?_)) | ((show AX _ _ _ _ _); (first | refine aP ?_ | refine aF ?_); simp only [go_sem, reduceCtorEq, e1, hinv, List.length_map]) | refine iK ?_ | refine aI2 ?_ | (refine hK _ ?_; clear hK K) | clear hK K)
end Go.Proofs.YtaaflhmfhnfjhaaGreat
namespace Go.Proofs.YtaaflhmfhnfjhaaGreat
open Go.RowKit Go.Exe
set_option linter.unusedVariables false
set_option linter.unusedSimpArgs false
set_option maxHeartbeats 8000000
set_option maxRecDepth 100000
/-! ### CriticalTiles -/
theorem Trn.timLl {l L : List Spn} {tr : Int} (h : Trn l L tr) (v : List Of) {x : Ev} (hx : x ∈ evsL L) : timM l v x = timM L v x := by
  obtain ⟨s, hs, hx⟩ := List.mem_flatMap.1 hx
  have hsl := h.perm.mem_iff.1 hs
  have key : ∀ e, timM l v (evOf s e) = timM L v (evOf s e) := fun e => by rw [timM_is v h.ndl hsl e, timM_is v h.nd hs e]
  simp only [List.mem_cons, List.not_mem_nil, or_false] at hx
  rcases hx with rfl | rfl
  · exact key false
  · exact key true
theorem Trn.badE {l L : List Spn} {tr : Int} (h : Trn l L tr) {x : Ev} (hx : x ∈ evsL L) : Go.Proofs.YtaaflhmfhnfjhaaGreat.badE l tr x = false := by
  obtain ⟨s, hs, hx⟩ := List.mem_flatMap.1 hx
  have hsl := h.perm.mem_iff.1 hs
  have key : ∀ e, Go.Proofs.YtaaflhmfhnfjhaaGreat.badE l tr (evOf s e) = false := fun e => by
    unfold Go.Proofs.YtaaflhmfhnfjhaaGreat.badE
    have h1 : ¬ atI l s.id < 0 := by
      unfold atI
      cases hf : l.findIdx? (fun x => x.id == s.id) with
      | none =>
        rw [List.findIdx?_eq_none_iff] at hf
        have := hf s hsl
        simp at this
      | some i => simp
    have h2 : s.tr = tr := h.tr s hs
    simp [evOf, h1, h2]
  simp only [List.mem_cons, List.not_mem_nil, or_false] at hx
  rcases hx with rfl | rfl
  · exact key false
  · exact key true
/-- What Time answers for an event of the trace. -/
theorem Trn.c22 {l L : List Spn} {tr : Int} (h : Trn l L tr) {v : List Of} (hc : chkE l v = 0) (hv : ∀ y ∈ v, I64 y.1) {x : Ev} (hx : x ∈ evsL L) : PCall Tryz.prog 22 [spsT l, ofsT v, evT x] (.t [(false, [fl (.int .i64 (timM L v x))]), (false, [fl (.int .i64 0)])]) := by
  have c := time_c l v x (fun s hs => (h.intl s hs).2.2.2) hv
  unfold timT at c
  rw [if_neg (by rw [hc]; simp), h.timE2 hc, h.badE hx] at c
  simp only [Bool.false_eq_true, if_false] at c
  rw [h.timLl v hx] at c
  exact c
/-- What Lengths answers for a path of the trace. -/
theorem Trn.c24 {l L : List Spn} {tr : Int} (h : Trn l L tr) {v : List Of} (hc : chkE l v = 0) (hv : ∀ y ∈ v, I64 y.1) {p : List Sg} (hp : ∀ g ∈ p, g.fr ∈ evsL L ∧ g.to ∈ evsL L) : PCall Tryz.prog 24 [spsT l, ofsT v, sgsT p] (.t [(false, [.im (.sl 3 ((p.map (lenM L v)).map iA))]), (false, [fl (.int .i64 0)])]) := by
  have c := lengths_c l v p (fun s hs => (h.intl s hs).2.2.2) hv
  have hb : p.any (badG l tr) = false := by
    rw [List.any_eq_false]
    intro g hg
    unfold badG
    rw [h.badE (hp g hg).1, h.badE (hp g hg).2]; simp
  unfold lenT at c
  rw [if_neg (by rw [hc]; simp), h.lenS hc, hb] at c
  simp only [Bool.false_eq_true, if_false] at c
  have e : p.map (lenM l v) = p.map (lenM L v) := List.map_congr_left fun g hg => by
    unfold lenM; rw [h.timLl v (hp g hg).1, h.timLl v (hp g hg).2]
  rw [e] at c
  exact c
theorem TilP.last {tm : Ev → Int} : ∀ {p : List Sg} {lo cur : Ev}, TilP tm p lo cur → p ≠ [] → ∃ g, p[p.length - 1]? = some g ∧ g.to = cur
  | [], _, _, _, h => absurd rfl h
  | [g], _, _, h, _ => ⟨g, rfl, h.2.2⟩
  | g :: y :: p, lo, cur, h, _ => by
    obtain ⟨z, h1, h2⟩ := TilP.last h.2.2 (by simp)
    exact ⟨z, by simpa using h1, h2⟩
attribute [local irreducible] W AX Run RunD AStep AOp AOpX AStB AStH AStG Fits PCall GCall PostG Post Stop
theorem tiles_c (c53 : SortC Tryz.prog 53 14) (c71 : SortI Tryz.prog 71) (g85 : GrowC Tryz.prog 85 3 1 8) (s : Sto) (hsB : s.okB) (u : Nat) (hu : u < 256) : PCall Tryz.prog 6 [stoT s, ft (.int .u8 (u : Nat))] (ft (.bool true)) := by
  have c11 := known_c c53 c71 g85
  rcases turned_all s hsB with c12 | ⟨t, hs, ht, c12⟩
  · have c12 := c12 0 (by omega)
    clear c53 c71 g85 hsB
    simp only [stoT, stoA, turnR, List.map, Option.map_none, Option.getD_none, Option.isSome_none] at c12 ⊢
    refine PCall.intro (nt := 211) (rs := [.tmp 4]) Tryz.func6 rfl ⟨by kernel_rfl, by kernel_rfl, by kernel_rfl⟩ (by simp) ?_
    rintro ⟨P, w0, ok0, may, np, pblk⟩ rfl rfl
    repeat' (first | ((show W _ _ _ _); first | refine W.seq fun K hK => ?_ | refine W.block ?_ | ((first | refine wR ?_ | refine wD ?_ | refine W.skip ?_ | refine W.exit ?_ | refine W.ret (Post.ret ?_)); simp only [go_sem, reduceCtorEq]) | refine wT ?_ | refine wF ?_ | refine wC (fun h => ?_) (fun h => ?_)) | ((show AX _ _ _ _ _); (first | refine aP ?_ | refine aF ?_); simp only [go_sem, reduceCtorEq]) | refine iK ?_ | refine aI2 ?_ | (refine hK _ ?_; clear hK K) | clear hK K)
  · have hT := story_trn hs ht 0
    have hc := story_chk ht 0
    have hvI := offT_I s
    have hvN := offT_nd s
    have h8 := (hs.1 t (List.mem_of_getElem? (turnT_is ht).2.1)).2.2.2
    have k12 := c12 0 (by omega)
    have hl0 : 0 < (rotL (trcS s 0 t) 0).length := by
      rw [← (rotL_perm _ 0).length_eq, trcS_len]; exact (turnT_is ht).2.2
    have hsm : ∀ x ∈ evsL (trcS s 0 t), -2000 < timM (trcS s 0 t) (offT s 4) x ∧ timM (trcS s 0 t) (offT s 4) x < 4000 := fun x hx => tim_small h8 hx
    have hti : ∀ z ∈ trcS s 0 t, ∀ e, ∃ k : Nat, 1 ≤ k ∧ k ≤ 4 ∧ z.clk = ((k : Nat) : Int) ∧ timM (trcS s 0 t) (offT s 4) (evOf z e) = atS z e - offC s k := fun z hz e => tim_is h8 hz e
    have hse : ∀ z ∈ trcS s 0 t, z.st ≤ z.en := fun z hz => story_st_en hz
    have c25 := fun k h1 h4 => off_c s hs k h1 h4
    clear c12 hsB
    generalize rotL (trcS s 0 t) 0 = l at *
    generalize trcS s 0 t = L at *
    generalize offT s 4 = v at *
    have hk := Nat.mod_lt u hl0
    obtain ⟨r, hr, hrm, _⟩ := drop_at hk
    have hrL := hT.perm.mem_iff.2 hrm
    obtain ⟨p, hP, hp⟩ := hT.pth v hrL
    have c13 := hT.c13 v c53 c71 g85 hvI hvN hc r.id
    rw [hP] at c13
    have c24 := hT.c24 hc hvI hp.ev
    have c22 := fun x hx => hT.c22 (x := x) hc hvI hx
    have c26 := fun x (hx : Dsc L r x) => by
      have c := below_c l x.id r.id
      rw [hT.blw hrL hx] at c
      exact c
    obtain ⟨k, hk1, hk4, hkc, hks⟩ := hti r hrL false
    obtain ⟨k', _, _, hkc', hke⟩ := hti r hrL true
    have hkk : k' = k := by rw [hkc] at hkc'; omega
    subst hkk
    have hsE := hse r hrL
    have k25 := c25 k' hk1 hk4
    have b1 := hsm _ (evs_mem hrL false)
    have b2 := hsm _ (evs_mem hrL true)
    have hll := hT.lenl
    have q1 := w64n u (by omega)
    have q2 := tm u l.length
    have q3 : ((l.length : Int) == 0) = false := by rw [beq_eq_false_iff_ne]; omega
    have q4 : decide (u % l.length < l.length) = true := by simp [hk]
    have n0 : ((0 : Int) != 0) = false := by decide
    have n1 : ((p.length : Int) != (p.length : Int)) = false := by simp
    clear c53 c71 g85 hc hvI hvN hti hse c25 hP hT
    simp only [stoT, stoA, turnR, List.map, Option.map_some, Option.getD_some, Option.isSome_some] at k12 k25 ⊢
    simp only [pthT] at c13
    have hq : 0 ≤ ((u % l.length : Nat) : Int) := by omega
    refine PCall.intro (nt := 211) (rs := [.tmp 4]) Tryz.func6 rfl ⟨by kernel_rfl, by kernel_rfl, by kernel_rfl⟩ (by simp) ?_
    rintro ⟨P, w0, ok0, may, np, pblk⟩ rfl rfl
    by_cases hst : r.st = r.en
    · have e1 : (r.st == r.en) = true := by rw [beq_iff_eq]; exact hst
      have hpn : p = [] := hp.nil (by rw [hks, hke]; show ¬ (r.st - _ < r.en - _); omega)
      subst hpn
      have n2 : ((([] : List Sg).length : Int) == 0) = true := by decide
      have n3 : (((0 : Nat) : Int) == 0) = true := by decide
      have n4 : (((0 : Nat) : Int) != ((0 : Nat) : Int)) = false := by decide
      simp only [List.map_nil] at c24 c13
      clear c22 c26
      repeat' (first | ((show W _ _ _ _); first | refine W.seq fun K hK => ?_ | refine W.block ?_ | ((first | refine wR ?_ | refine wD ?_ | refine W.skip ?_ | refine W.exit ?_ | refine W.ret (Post.ret ?_)); simp only [go_sem, reduceCtorEq, q1, q2, q3, q4, n0, n1, n2, n3, n4, hr, spA, List.getElem?_map, List.length_map, e1, List.length_nil]) | refine wT ?_ | refine wF ?_ | refine wC (fun h => ?_) (fun h => ?_)) | ((show AX _ _ _ _ _); (first | refine aP ?_ | refine aF ?_); simp only [go_sem, reduceCtorEq, q1, q2, q3, q4, n0, n1, n2, n3, n4, hr, spA, List.getElem?_map, List.length_map, e1, List.length_nil]) | refine iK ?_ | refine aI2 ?_ | (refine hK _ ?_; clear hK K) | clear hK K)
    · have e1 : (r.st == r.en) = false := by rw [beq_eq_false_iff_ne]; exact hst
      have htl := hp.til (by rw [hks, hke]; show r.st - _ < r.en - _; omega)
      have hpv := hp.ev
      have hps := hp.seg
      have w1 : IntKind.i64.wrap (r.st - offC s k') = timM L v (evOf r false) := by
        rw [hks]
        show IntKind.i64.wrap (atS r false - offC s k') = _
        rw [← hks]; exact w64 (by omega) (by omega)
      rw [← hkc] at k25
      repeat' (first | ((show W _ _ _ _); first | refine W.stop (id := 13) ?_ | refine W.seq fun K hK => ?_ | refine W.block ?_ | ((first | refine wR ?_ | refine wD ?_ | refine W.skip ?_ | refine W.exit ?_ | refine W.ret (Post.ret ?_)); simp only [go_sem, reduceCtorEq, q1, q2, q3, q4, n0, n1, hr, spA, List.getElem?_map, List.length_map, e1]) | refine wT ?_ | refine wF ?_ | refine wC (fun h => ?_) (fun h => ?_)) | ((show AX _ _ _ _ _); (first | refine aP ?_ | refine aF ?_); simp only [go_sem, reduceCtorEq, q1, q2, q3, q4, n0, n1, hr, spA, List.getElem?_map, List.length_map, e1]) | refine iK ?_ | refine aI2 ?_ | (refine hK _ ?_; clear hK K) | clear hK K)
      refine Stop.out ?_
      clear c11 c13 c24 k12
      repeat' (first | ((show W _ _ _ _); first | refine W.seq fun K hK => ?_ | refine W.block ?_ | ((first | refine wR ?_ | refine wD ?_ | refine W.skip ?_ | refine W.exit ?_ | refine W.ret (Post.ret ?_)); simp only [go_sem, reduceCtorEq, w1]) | refine wT ?_ | refine wF ?_ | refine wC (fun h => ?_) (fun h => ?_)) | ((show AX _ _ _ _ _); (first | refine aP ?_ | refine aF ?_); simp only [go_sem, reduceCtorEq, w1]) | refine iK ?_ | refine aI2 ?_ | (refine hK _ ?_; clear hK K) | clear hK K)
      clear k25
      refine W.loopF (T := fun x : Nat × Int × Int => { t := [(5, spsT l), (6, ofsT v), (8, .c (.ptr 0 0)), (9, sgsT p), (11, .c (.im (.sl 3 ((p.map (lenM L v)).map iA)))), (13, ft (.int .i64 x.2.1)), (14, ft (.int .i64 x.2.2)), (15, ft (.int .i64 (x.1 : Nat)))], h := [(0, .box 36 ((spA r).map .im))], nx := 1, ex := [], nt := 211 })
        (Inv := fun x => x.1 ≤ p.length ∧ ∃ y, y ∈ evsL L ∧ TilP (timM L v) (p.drop x.1) y (evOf r true) ∧ x.2.2 = timM L v y ∧ x.2.1 = timM L v y - timM L v (evOf r false)) (μ := fun x => p.length - x.1) (x0 := (0, 0, timM L v (evOf r false))) ?_ ⟨Nat.zero_le _, evOf r false, evs_mem hrL false, by rw [List.drop_zero]; exact htl, rfl, by simp only; omega⟩ ?_
      · refine Fits.fit [(23, 0)] [5, 6, 8, 9, 11, 13, 14, 15] 1 rfl rfl ?_
        simp only [go_sem, spA, List.map]
        exact Fits.rfl
      rintro ⟨i, sm, la⟩ ⟨hi, y, hyE, hty, hla, hsum⟩ KL hKL
      simp only at hi hty hla hsum
      refine W.lenB 9 rfl tE66 fun hp0 hp1 => ?_
      rw [List.length_map] at hp1
      by_cases hlt : i < p.length
      · obtain ⟨g, hx, hm, hd⟩ := drop_at hlt
        have f1 : decide ((i : Int) < p.length) = true := by simp; omega
        have f2 : decide (i < p.length) = true := by simp; omega
        have hw := w64s i (by omega)
        rw [hd] at hty
        obtain ⟨h1, h2, h3⟩ := hty
        have hev := hpv g hm
        have ka := c22 g.fr hev.1
        have kb := c22 g.to hev.2
        obtain ⟨x, hxs⟩ := hps g hm
        have kc := c26 x hxs.dsc
        have hsp : g.sp.2 = x.id := by rw [hxs.sp]
        rw [← hsp] at kc
        have ba := hsm g.fr hev.1
        have bb := hsm g.to hev.2
        rw [← h1] at hla hsum
        have hnx : (i + 1, timM L v g.to - timM L v (evOf r false), timM L v g.to).1 ≤ p.length ∧ ∃ y, y ∈ evsL L ∧ TilP (timM L v) (p.drop (i + 1, timM L v g.to - timM L v (evOf r false), timM L v g.to).1) y (evOf r true) ∧ (i + 1, timM L v g.to - timM L v (evOf r false), timM L v g.to).2.2 = timM L v y ∧ (i + 1, timM L v g.to - timM L v (evOf r false), timM L v g.to).2.1 = timM L v y - timM L v (evOf r false) := ⟨by simp only; omega, g.to, hev.2, h3, rfl, rfl⟩
        have hlm : lenM L v g = IntKind.i64.wrap (timM L v g.to - timM L v g.fr) := rfl
        clear c22 c26 hps hpv h3 hx hsp
        have hx := List.getElem?_eq_getElem hlt
        rw [show p[i] = g from by have := hd; rw [List.drop_eq_getElem_cons hlt] at this; exact (List.cons.inj this).1] at hx
        generalize timM L v g.fr = a at *
        generalize timM L v g.to = b at *
        generalize timM L v (evOf r false) = a0 at *
        have hwm : IntKind.i64.wrap (b - a) = b - a := w64 (by omega) (by omega)
        rw [hwm] at hlm
        have m1 : (a != a) = false := by simp
        have m2 : (b - a != b - a) = false := by simp
        have m3 : decide (b - a ≤ 0) = false := by simp; omega
        have m4 : IntKind.i64.wrap (a - a0 + (b - a)) = b - a0 := by rw [w64 (by omega) (by omega)]; omega
        subst hla hsum
        simp only [evT, evA, List.map] at ka kb
        simp only [spA, List.map]
        repeat' (first | ((show W _ _ _ _); first | refine W.seq fun K hK => ?_ | refine W.block ?_ | ((first | refine wR ?_ | refine wD ?_ | refine W.skip ?_ | refine W.exit ?_ | refine W.ret (Post.ret ?_)); simp only [go_sem, reduceCtorEq, f1, f2, n0, m1, m2, m3, m4, hw, hwm, hlm, hx, sgA, iA, List.getElem?_map, Option.map_some, List.length_map]) | refine wT ?_ | refine wF ?_ | refine wC (fun h => ?_) (fun h => ?_)) | ((show AX _ _ _ _ _); (first | refine aP ?_ | refine aF ?_); simp only [go_sem, reduceCtorEq, f1, f2, n0, m1, m2, m3, m4, hw, hwm, hlm, hx, sgA, iA, List.getElem?_map, Option.map_some, List.length_map]) | refine iK ?_ | refine aI2 ?_ | (refine hK _ ?_; clear hK K) | clear hK K)
        refine hKL.to (i + 1, b - a0, b) hnx (by simp only; omega) (Fits.fit [(0, 0)] [5, 6, 8, 9, 11, 13, 14, 15] 1 rfl rfl ?_)
        simp only [go_sem, spA, List.map]
        exact Fits.rfl
      · obtain rfl : i = p.length := by omega
        have f1 : decide ((p.length : Int) < p.length) = false := by simp
        rw [List.drop_length] at hty
        have hty : y = evOf r true := hty
        subst hty
        have hpne : p ≠ [] := fun e => by
          rw [e] at htl
          have h : evOf r false = evOf r true := htl
          simp [evOf] at h
        obtain ⟨gl, hgl, hglt⟩ := htl.last hpne
        obtain ⟨g0, p', rfl⟩ := List.exists_cons_of_ne_nil hpne
        have hg0 : g0.fr = evOf r false := htl.1
        have n5 : decide (((g0 :: p').length : Int) > 0) = true := by simp
        have w2 : IntKind.i64.wrap (r.en - r.st) = r.en - r.st := by
          have e1 : atS r true = r.en := rfl
          have e2 : atS r false = r.st := rfl
          exact w64 (by omega) (by omega)
        have hsm2 : sm = r.en - r.st := by
          rw [hsum, hks, hke]
          show r.en - _ - (r.st - _) = _
          omega
        have n6 : (sm == r.en - r.st) = true := by rw [beq_iff_eq]; exact hsm2
        have n7 : (r.id == r.id) = true := by simp
        have w3 : IntKind.i64.wrap (((g0 :: p').length : Int) - 1) = (((g0 :: p').length - 1 : Nat) : Int) := by
          rw [w64 (by omega) (by omega)]; simp
        have f2 : decide ((g0 :: p').length - 1 < (g0 :: p').length) = true := by simp
        have f3 : decide (0 < (g0 :: p').length) = true := by simp
        have hx0 : (g0 :: p')[0]? = some g0 := rfl
        have hG := eqG52
        have hE1 : ∀ w, (Op.equal 52 (.agg #[.int .i64 r.tr, .int .i64 r.id, .bool false]) (.agg #[.int .i64 r.tr, .int .i64 r.id, .bool false])).run Tryz.prog w = .ok true w := fun w => by rw [eqEv]; simp
        have hE2 : ∀ w, (Op.equal 52 (.agg #[.int .i64 r.tr, .int .i64 r.id, .bool true]) (.agg #[.int .i64 r.tr, .int .i64 r.id, .bool true])).run Tryz.prog w = .ok true w := fun w => by rw [eqEv]; simp
        have h01 : g0.fr.tr = r.tr := by rw [hg0]; rfl
        have h02 : g0.fr.id = r.id := by rw [hg0]; rfl
        have h03 : g0.fr.en = false := by rw [hg0]; rfl
        have h11 : gl.to.tr = r.tr := by rw [hglt]; rfl
        have h12 : gl.to.id = r.id := by rw [hglt]; rfl
        have h13 : gl.to.en = true := by rw [hglt]; rfl
        clear hKL c22 c26 hps hpv htl hp hsm
        generalize g0 :: p' = p at *
        simp only [spA, List.map]
        repeat' (first | ((show W _ _ _ _); first | refine W.seq fun K hK => ?_ | refine W.block ?_ | ((first | refine wR ?_ | refine wD ?_ | refine W.skip ?_ | refine W.exit ?_ | refine W.ret (Post.ret ?_)); simp only [go_sem, reduceCtorEq, f1, f2, f3, n5, n6, n7, w2, w3, hx0, hgl, sgA, h01, h02, h03, h11, h12, h13, List.getElem?_map, Option.map_some, List.length_map]) | refine wT ?_ | refine wF ?_ | refine wC (fun h => ?_) (fun h => ?_)) | ((show AX _ _ _ _ _); (first | refine aP ?_ | refine aF ?_); simp only [go_sem, reduceCtorEq, f1, f2, f3, n5, n6, n7, w2, w3, hx0, hgl, sgA, h01, h02, h03, h11, h12, h13, List.getElem?_map, Option.map_some, List.length_map]) | refine iK ?_ | refine aI2 ?_ | (refine hK _ ?_; clear hK K) | clear hK K)
        refine aE (hg := hG) (heq := hE1) ?_
        simp only [go_sem, reduceCtorEq, f1, f2, f3, n5, n6, n7, w2, w3, hx0, hgl, sgA, h01, h02, h03, h11, h12, h13, List.getElem?_map, Option.map_some, List.length_map]
        repeat' (first | ((show W _ _ _ _); first | refine W.seq fun K hK => ?_ | refine W.block ?_ | ((first | refine wR ?_ | refine wD ?_ | refine W.skip ?_ | refine W.exit ?_ | refine W.ret (Post.ret ?_)); simp only [go_sem, reduceCtorEq, f1, f2, f3, n5, n6, n7, w2, w3, hx0, hgl, sgA, h01, h02, h03, h11, h12, h13, List.getElem?_map, Option.map_some, List.length_map]) | refine wT ?_ | refine wF ?_ | refine wC (fun h => ?_) (fun h => ?_)) | ((show AX _ _ _ _ _); (first | refine aP ?_ | refine aF ?_); simp only [go_sem, reduceCtorEq, f1, f2, f3, n5, n6, n7, w2, w3, hx0, hgl, sgA, h01, h02, h03, h11, h12, h13, List.getElem?_map, Option.map_some, List.length_map]) | refine iK ?_ | refine aI2 ?_ | (refine hK _ ?_; clear hK K) | clear hK K)
        refine aE (hg := hG) (heq := hE2) ?_
        simp only [go_sem, reduceCtorEq, f1, f2, f3, n5, n6, n7, w2, w3, hx0, hgl, sgA, h01, h02, h03, h11, h12, h13, List.getElem?_map, Option.map_some, List.length_map]
        repeat' (first | ((show W _ _ _ _); first | refine W.seq fun K hK => ?_ | refine W.block ?_ | ((first | refine wR ?_ | refine wD ?_ | refine W.skip ?_ | refine W.exit ?_ | refine W.ret (Post.ret ?_)); simp only [go_sem, reduceCtorEq, f1, f2, f3, n5, n6, n7, w2, w3, hx0, hgl, sgA, h01, h02, h03, h11, h12, h13, List.getElem?_map, Option.map_some, List.length_map]) | refine wT ?_ | refine wF ?_ | refine wC (fun h => ?_) (fun h => ?_)) | ((show AX _ _ _ _ _); (first | refine aP ?_ | refine aF ?_); simp only [go_sem, reduceCtorEq, f1, f2, f3, n5, n6, n7, w2, w3, hx0, hgl, sgA, h01, h02, h03, h11, h12, h13, List.getElem?_map, Option.map_some, List.length_map]) | refine iK ?_ | refine aI2 ?_ | (refine hK _ ?_; clear hK K) | clear hK K)
end Go.Proofs.YtaaflhmfhnfjhaaGreat
namespace Go.Proofs.YtaaflhmfhnfjhaaGreat
open Go.ChangeShapes Go.WideShapes Go.ChangeAt Go.RowKit Go.Exe
set_option maxRecDepth 100000
set_option maxHeartbeats 1600000

def tilesC : Prop := ∀ (x0 : List AV) (x1 : AV), Typ Tryz.prog 6 27 x0 → Typ Tryz.prog 6 5 [x1] → PCall Tryz.prog 6 [.g (x0.map .im), .c (.im x1)] (ft (.bool true))
theorem tiles_lifted (hc : tilesC) (os : Os) (started : os.Started) (H : Type) (enc : TypeId × Value → H) :
    ReturnsInHanded {} Tryz.checked os 6 .any (Rows.criticalTilesSpec.pre6 enc Tryz.prog Tryz.f6 Rows.criticalTilesRow.domain false) (Rows.criticalTilesSpec.post enc Tryz.prog Tryz.f6 false Rows.criticalTilesRow.fresh Rows.criticalTilesRow.handsOn Rows.criticalTilesRow.again) := by
  refine returnsInHanded_of_change_sized (C := Tryz.checked) Tryz.own started (by kernel_rfl) Tryz.func6
    (ChangeSpec.witness6 (enc := enc) (C := Tryz.checked) false ⟨#[], #[.agg #[.slice none 0 0, .int .i8 0, .int .i8 0, .int .i8 0, .int .i8 0, .slice none 0 0, .int .u8 0], .int .u8 0], []⟩ 8 (by kernel_rfl) (by kernel_rfl) (by kernel_rfl) (by kernel_rfl)) ?_
  intro W base args ds gs before hval0 hW _ hsz0 _
  have hsz : (DataW.weightsEach Tryz.prog (Tryz.f6.params.toList ++ Rows.criticalTilesSpec.plain.varTypes Tryz.prog) (ds ++ gs)).all (· ≤ reachBytes) = true := hsz0
  clear hsz0
  have hval : ∀ (j : Nat) t v, Tryz.f6.params[j]? = some t → args[j]? = some v → Value.okWide Tryz.prog W .any base t v := hval0
  have hW' := hW
  obtain ⟨p, q, hA0, hV, rfl, hfz, hnd⟩ := hW
  have hA : DataW.TrodAll enc Tryz.prog W 0 (fun _ => true) true Tryz.f6.params.toList args.toList ds p := hA0
  rw [Tryz.params6] at hA hval hsz
  obtain ⟨v0, v1, d0, d1, p0, p1, rfl, rfl, rfl, h0, h1⟩ := trodAll_two hA
  obtain ⟨rfl, rfl⟩ := trodVars_none hV
  clear hA0 hval0
  simp only [List.append_nil] at hW'
  obtain ⟨x0, r0, y0⟩ := arg_g (j := 0) 6 (by kernel_rfl) (by obtain ⟨cs, hcs, _⟩ := okWide_struct rfl (hval 0 27 v0 rfl rfl); exact ⟨cs, hcs⟩) h0 hsz rfl rfl
  obtain ⟨x1, r1, y1⟩ := arg_c (j := 1) 6 (by kernel_rfl) (by obtain ⟨z, hz⟩ := okWide_int rfl (hval 1 5 v1 rfl rfl); rw [hz]; rfl) h1 hsz rfl rfl
  have hlt : ∀ x ∈ p0 ++ p1, x.block < W.heap.size := fun x hx => by simpa using hW'.lt x hx
  have hargs : ∀ (W' : World), Below W.heap.size W W' → DataW.TrodAll enc Tryz.prog W' 0 (fun b => decide (b < W.heap.size)) true Tryz.f6.params.toList [v0, v1] [d0, d1] (p0 ++ p1) := fun W' hn => by
    have k27 : ∀ {v d ps}, DataW.Trod enc Tryz.prog W 0 (fun _ => true) true 27 v d ps → (∀ x ∈ ps, x.block < W.heap.size) → DataW.Trod enc Tryz.prog W' 0 (fun b => decide (b < W.heap.size)) true 27 v d ps :=
      fun h hl => Below.trod Tryz.laidOut (by kernel_rfl) (of_decide_eq_true (by kernel_rfl)) h hn hl
    have k5 : ∀ {v d ps}, DataW.Trod enc Tryz.prog W 0 (fun _ => true) true 5 v d ps → (∀ x ∈ ps, x.block < W.heap.size) → DataW.Trod enc Tryz.prog W' 0 (fun b => decide (b < W.heap.size)) true 5 v d ps :=
      fun h hl => Below.trod Tryz.laidOut (by kernel_rfl) (of_decide_eq_true (by kernel_rfl)) h hn hl
    rw [Tryz.params6]
    exact trodAll_mk2 (k27 h0 fun x hx => hlt x (by simp [hx])) (k5 h1 fun x hx => hlt x (by simp [hx]))
  have hcall := (hc x0 x1 y0 y1).2 (fun _ => True) W [v0, v1] (Al.cons r0 (Al.cons r1 Al.nil))
  refine hcall.mono fun e W' ⟨v, he, ⟨hB, _⟩, hr⟩ => ?_
  subst he
  obtain rfl : v = .bool true := RepA.flat_eq hr
  refine ⟨_, rfl, _, _, _, [], p0 ++ p1, [], hW', ?_, ?_, ?_, hB.frame _, fun h => by cases h⟩
  · exact trodAll_mk1 (shut_bool under4 true)
  · exact hargs W' hB
  · rfl
theorem tiles_holds (hc : tilesC) : Rows.CriticalTilesSaid :=
  OpenClaim.holds_of_wide 6 Tryz.f6 rfl rfl rfl rfl rfl rfl rfl ⟨rfl, rfl, rfl, rfl, rfl⟩ rfl rfl rfl rfl rfl (by kernel_rfl) Tryz.func6 (by kernel_rfl)
    (of_decide_eq_true (by kernel_rfl)) (by unfold Func.isWrapper; rw [if_neg (by decide +kernel)]; exact ⟨rfl, rfl⟩)
    (fun os started H enc _ => tiles_lifted hc os started H enc)
end Go.Proofs.YtaaflhmfhnfjhaaGreat
namespace Go.Proofs.YtaaflhmfhnfjhaaGreat
open Go.RowKit Go.Exe
set_option maxRecDepth 100000
theorem ytaaflhmfhnfjhaagreat_criticalTiles_holds : Rows.CriticalTilesSaid := tiles_holds fun x0 x1 h0 h1 => by
  obtain ⟨s, hs, rfl⟩ := sto_in (f := 0) h0
  obtain ⟨u, hx, hu⟩ := Typ.u8 tU5 h1
  cases hx
  exact tiles_c sort53_c sort71_c grow85_c s hs u hu
end Go.Proofs.YtaaflhmfhnfjhaaGreat
