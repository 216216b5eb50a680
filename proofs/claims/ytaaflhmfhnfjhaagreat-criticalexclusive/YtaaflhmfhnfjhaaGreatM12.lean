/-
  CriticalExclusive: at every story and every span of its first trace the law answers true: Exclusive returns the times of the spans on the path, in order, each at most the self time of the span.
-/
import Derived.Test.YtaaflhmfhnfjhaaGreatM10
import Derived.Test.YtaaflhmfhnfjhaaGreatM11
set_option linter.unusedVariables false
set_option linter.unusedSimpArgs false
set_option maxHeartbeats 8000000
set_option maxRecDepth 100000
namespace Go.Proofs.YtaaflhmfhnfjhaaGreat
open Go.RowKit Go.Exe
/-! ### CriticalShifts -/
abbrev off4 (a b c d : Int) : List Of := [(1, a), (2, b), (3, c), (4, d)]
/-- The times of a story's spans are small. -/
theorem at_small {s : Sto} {t : Tre} (h8 : t.cs.length ≤ 8) {x : Spn} (hx : x ∈ trcS s 0 t) (e : Bool) : -1000 < atS x e ∧ atS x e < 3000 := by
  obtain ⟨i, c, hi, rfl⟩ := trcS_mem hx
  have b := offC_b s (1 + c.cl % 4)
  have h1 := getD_le (stL_le h8) i
  have h2 := getD_le (enL_le h8) i
  have hby : -21 < byS s 0 i c ∧ byS s 0 i c < 521 := by unfold byS; split <;> omega
  cases e
  · show -1000 < (((stL t).getD i 0 : Nat) : Int) + byS s 0 i c ∧ (((stL t).getD i 0 : Nat) : Int) + byS s 0 i c < 3000
    omega
  · show -1000 < (((enL t).getD i 0 : Nat) : Int) + byS s 0 i c ∧ (((enL t).getD i 0 : Nat) : Int) + byS s 0 i c < 3000
    omega
theorem offI_4 (a b c d : Int) (k : Nat) (hk : k < 4) : offI (off4 a b c d) ((1 + k : Nat) : Int) = if k = 0 then a else if k = 1 then b else if k = 2 then c else d := by
  rcases k with _ | _ | _ | _ | k
  · simp [offI]
  · simp [offI]
  · simp [offI]
  · simp [offI]
  · omega
theorem tim4 {s : Sto} {t : Tre} (h8 : t.cs.length ≤ 8) {x : Spn} (hx : x ∈ trcS s 0 t) (e : Bool) {a b c d : Int} (ha : -100000 ≤ a ∧ a ≤ 100000) (hb : -100000 ≤ b ∧ b ≤ 100000) (hc : -100000 ≤ c ∧ c ≤ 100000) (hd : -100000 ≤ d ∧ d ≤ 100000) :
    timM (trcS s 0 t) (off4 a b c d) (evOf x e) = atS x e - offI (off4 a b c d) x.clk := by
  rw [timM_is _ (nodup_sorted (trcS_sorted s 0 t)) hx e]
  have h1 := at_small h8 hx e
  obtain ⟨i, y, hi, rfl⟩ := trcS_mem hx
  have h4 : y.cl % 4 < 4 := Nat.mod_lt _ (by omega)
  have h5 := offI_4 a b c d (y.cl % 4) h4
  have h6 : (spnS s 0 t i y).clk = ((1 + y.cl % 4 : Nat) : Int) := rfl
  rw [h6, h5]
  exact w64 (by split <;> (try split) <;> (try split) <;> omega) (by split <;> (try split) <;> (try split) <;> omega)
/-- What 'turned' answers, for every turn of one story. -/
theorem turned_all (s : Sto) (hsB : s.okB) : (∀ u, u < 256 → PCall Tryz.prog 12 [stoT s, ft (.int .u8 (u : Nat))] (turnR none)) ∨
    ∃ t, s.ok ∧ turnT s = some t ∧ ∀ u, u < 256 → PCall Tryz.prog 12 [stoT s, ft (.int .u8 (u : Nat))] (turnR (some (rotL (trcS s 0 t) u, offT s 4))) := by
  cases hsh : shortS s with
  | false => exact .inl fun u _ => turned_c0 s hsh u
  | true =>
    have hs := hsB.ok hsh
    have c := fun u hu => turned_c s hs u hu
    unfold turnF at c
    cases ht : turnT s with
    | none => rw [ht] at c; exact .inl c
    | some t => rw [ht] at c; exact .inr ⟨t, hs, rfl, c⟩
attribute [local irreducible] W AX Run RunD AStep AOp AOpX AStB AStH AStG Fits PCall GCall PostG Post Stop
end Go.Proofs.YtaaflhmfhnfjhaaGreat
namespace Go.Proofs.YtaaflhmfhnfjhaaGreat
open Go.RowKit Go.Exe
/-! ### CriticalTimes -/
theorem ordN_false {v : List Of} : ∀ {m : Nat}, ordN v m = false → ∀ n, 0 < n → n < m → leAt v n = false
  | 0, _, n, _, h => by omega
  | m + 1, h, n, h0, hn => by
    simp only [ordN, Bool.or_eq_false_iff, Bool.and_eq_false_iff] at h
    by_cases e : n = m
    · subst e
      rcases h.2 with h2 | h2
      · simp at h2; omega
      · exact h2
    · exact ordN_false h.1 n h0 (by omega)
theorem chk_ord {l : List Spn} {v : List Of} (h : chkE l v = 0) : ordN v v.length = false := by
  unfold chkE at h
  cases ho : ordN v v.length with
  | false => rfl
  | true => rw [ho] at h; simp at h
theorem chk_nd {l : List Spn} {v : List Of} (h : chkE l v = 0) : (v.map (·.1)).Nodup := by
  have ho := ordN_false (chk_ord h)
  have key : ∀ j (hj : j < v.length) i (hi : i < j), v[i].1 < v[j].1 := by
    intro j
    induction j with
    | zero => intro _ i hi; omega
    | succ j ih =>
      intro hj i hi
      have h1 := ho (j + 1) (by omega) hj
      unfold leAt at h1
      rw [List.getElem?_eq_getElem hj, show j + 1 - 1 = j by omega, List.getElem?_eq_getElem (by omega : j < v.length)] at h1
      have h2 := of_decide_eq_false h1
      by_cases e : i = j
      · subst e; omega
      · have := ih (by omega) i (by omega); omega
  rw [List.Nodup, List.pairwise_map, List.pairwise_iff_getElem]
  intro i j hi hj hij e
  have := key j hj i hij
  omega
theorem Trn.timE {l L : List Spn} {tr : Int} (h : Trn l L tr) {v : List Of} (hc : chkE l v = 0) (x : Ev) : timE l v x = if x.tr = tr then (if atI l x.id < 0 then none else some (timM l v x)) else none := by
  unfold Go.Proofs.YtaaflhmfhnfjhaaGreat.timE spOfR
  by_cases e : x.tr = tr
  · rw [if_pos e]
    have e1 : l.find? (fun s => s.tr == x.tr && s.id == x.id) = l.find? (fun s => s.id == x.id) := by
      have : ∀ m : List Spn, (∀ s ∈ m, s.tr = tr) → m.find? (fun s => s.tr == x.tr && s.id == x.id) = m.find? (fun s => s.id == x.id) := by
        intro m
        induction m with
        | nil => intro _; rfl
        | cons y m ih =>
          intro hm
          have h1 : (y.tr == x.tr) = true := by rw [beq_iff_eq, e]; exact hm y (by simp)
          rw [List.find?_cons, List.find?_cons, h1, Bool.true_and, ih fun s hs => hm s (by simp [hs])]
      exact this l h.trl
    simp only
    rw [e1]
    cases hf : l.findIdx? (fun s => s.id == x.id) with
    | none =>
      have h1 : l.find? (fun s => s.id == x.id) = none := by
        rw [List.find?_eq_none]
        rw [List.findIdx?_eq_none_iff] at hf
        exact fun y hy => by simpa using hf y hy
      have h2 : atI l x.id = -1 := by simp [atI, hf]
      rw [h1, h2, if_pos (by omega)]; rfl
    | some i =>
      obtain ⟨h4, h5, _⟩ := List.findIdx?_eq_some_iff_getElem.1 hf
      have hk := List.getElem?_eq_getElem h4
      have h2 : atI l x.id = (i : Nat) := by simp [atI, hf]
      have h3 : timM l v x = IntKind.i64.wrap (atS l[i] x.en - offI v l[i].clk) := by simp only [timM, hf, hk]
      rw [h2, if_neg (by omega), h3]
      cases hs : l.find? (fun s => s.id == x.id) with
      | none =>
        rw [List.find?_eq_none] at hs
        exact absurd h5 (hs _ (List.getElem_mem h4))
      | some s =>
        have h6 := List.find?_some hs
        have h7 := List.mem_of_find?_eq_some hs
        have he := id_eq h.ndl h7 (List.getElem_mem h4) (by
          have a1 : s.id = x.id := by simpa using h6
          have a2 : l[i].id = x.id := by simpa using h5
          rw [a1, a2])
        rw [he, Option.map_some, off_eq (chk_nd hc)]
  · rw [if_neg e]
    have : l.find? (fun s => s.tr == x.tr && s.id == x.id) = none := by
      rw [List.find?_eq_none]
      intro s hs
      have := h.trl s hs
      have : ¬ s.tr = x.tr := fun e2 => e (by rw [← e2, this])
      simp [this]
    simp only
    rw [this]; rfl
attribute [local irreducible] W AX Run RunD AStep AOp AOpX AStB AStH AStG Fits PCall GCall PostG Post Stop
end Go.Proofs.YtaaflhmfhnfjhaaGreat
namespace Go.Proofs.YtaaflhmfhnfjhaaGreat
open Go.RowKit Go.Exe
/-! ### CriticalLengths -/
def badE (l : List Spn) (tr : Int) (x : Ev) : Bool := decide (atI l x.id < 0) || (x.tr != tr)
def badG (l : List Spn) (tr : Int) (g : Sg) : Bool := badE l tr g.fr || badE l tr g.to
def lenM (l : List Spn) (v : List Of) (g : Sg) : Int := IntKind.i64.wrap (timM l v g.to - timM l v g.fr)
theorem Trn.timE2 {l L : List Spn} {tr : Int} (h : Trn l L tr) {v : List Of} (hc : chkE l v = 0) (x : Ev) : Go.Proofs.YtaaflhmfhnfjhaaGreat.timE l v x = if badE l tr x then none else some (timM l v x) := by
  rw [h.timE hc]
  unfold badE
  by_cases h1 : x.tr = tr
  · by_cases h2 : atI l x.id < 0
    · simp [h1, h2]
    · simp [h1, h2]
  · simp [h1]
theorem Trn.lenS {l L : List Spn} {tr : Int} (h : Trn l L tr) {v : List Of} (hc : chkE l v = 0) : ∀ p : List Sg, Go.Proofs.YtaaflhmfhnfjhaaGreat.lenS l v p = if p.any (badG l tr) then none else some (p.map (lenM l v))
  | [] => rfl
  | g :: p => by
    simp only [Go.Proofs.YtaaflhmfhnfjhaaGreat.lenS, h.timE2 hc, Trn.lenS h hc p, List.any_cons, List.map_cons, badG]
    cases badE l tr g.fr with
    | true => simp
    | false =>
      cases badE l tr g.to with
      | true => simp
      | false =>
        simp only [Bool.false_eq_true, if_false, Bool.or_false, Bool.false_or]
        by_cases hp : p.any (fun g => badE l tr g.fr || badE l tr g.to) = true
        · have : p.any (badG l tr) = true := hp
          simp [this]
        · have : p.any (badG l tr) = false := by rw [Bool.not_eq_true] at hp; exact hp
          simp [this, lenM]
attribute [local irreducible] W AX Run RunD AStep AOp AOpX AStB AStH AStG Fits PCall GCall PostG Post Stop
end Go.Proofs.YtaaflhmfhnfjhaaGreat
namespace Go.Proofs.YtaaflhmfhnfjhaaGreat
open Go.RowKit Go.Exe
/-! ### the law of the walk: its segments tile the time, and where one is, no blocking child runs -/
def TilQ (tm : Ev → Int) : List Sg → Ev → Ev → Prop
  | [], lo, cur => lo = cur
  | g :: q, lo, cur => g.to = cur ∧ tm g.fr < tm cur ∧ TilQ tm q lo g.fr
theorem TilQ.app {tm : Ev → Int} : ∀ {q1 q2 : List Sg} {lo m cur : Ev}, TilQ tm q1 m cur → TilQ tm q2 lo m → TilQ tm (q1 ++ q2) lo cur
  | [], _, _, _, _, h1, h2 => by cases h1; exact h2
  | g :: q, _, _, _, _, h1, h2 => ⟨h1.1, h1.2.1, TilQ.app h1.2.2 h2⟩
/-- From a span up to another one. -/
inductive Dsc (L : List Spn) (s : Spn) : Spn → Prop
  | refl : Dsc L s s
  | step {x y : Spn} : Dsc L s y → x ∈ L → x.pa = y.id → Dsc L s x
theorem Dsc.trans {L : List Spn} {s c x : Spn} (h : Dsc L c x) (hc : Dsc L s c) : Dsc L s x := by
  induction h with
  | refl => exact hc
  | step _ h2 h3 ih => exact .step ih h2 h3
def quaB (tm : Ev → Int) (lo cur : Ev) (k : Spn) : Prop := tm (evOf k false) < tm cur ∧ tm lo < tm (evOf k true) ∧ tm (evOf k false) < tm (evOf k true)
def untE (tm : Ev → Int) (cur : Ev) (k : Spn) : Ev := if tm (evOf k true) < tm cur then evOf k true else cur
section
variable {tm : Ev → Int} {bf : Ev → Ev → Bool} (hbf : ∀ x y, bf x y = decide (tm x < tm y))
include hbf
theorem askB_is (x y : Ev) : askB bf x y = decide (tm x < tm y) := by
  unfold askB
  rw [hbf]
  by_cases h : x = y
  · subst h; simp
  · simp [h]
theorem chStep_is (lo cur : Ev) (acc : Option (Spn × Ev)) (k : Spn) : (quaB tm lo cur k ∧ chStep bf lo cur acc k = (match acc with
      | none => some (k, untE tm cur k)
      | some y => if tm y.2 < tm (untE tm cur k) then some (k, untE tm cur k) else some y)) ∨ (¬ quaB tm lo cur k ∧ chStep bf lo cur acc k = acc) := by
  rw [chStep_eq]
  simp only [askB_is hbf]
  by_cases h : quaB tm lo cur k
  · refine .inl ⟨h, ?_⟩
    obtain ⟨h1, h2, h3⟩ := h
    rw [if_pos (by simp [h1, h2, h3])]
    have hu : (if decide (tm (evOf k true) < tm cur) = true then evOf k true else cur) = untE tm cur k := by
      unfold untE
      by_cases h4 : tm (evOf k true) < tm cur <;> simp [h4]
    rw [hu]
    cases acc with
    | none => rfl
    | some y =>
      simp only
      by_cases h5 : tm y.2 < tm (untE tm cur k) <;> simp [h5]
  · refine .inr ⟨h, ?_⟩
    rw [if_neg]
    intro h2
    simp only [Bool.and_eq_true, decide_eq_true_eq] at h2
    exact h ⟨h2.1.1, h2.1.2, h2.2⟩
theorem chooseF_law (lo cur : Ev) : ∀ (l : List Spn) (acc : Option (Spn × Ev)) (r : Option (Spn × Ev)), l.foldl (chStep bf lo cur) acc = r →
    (r = none → acc = none ∧ ∀ k ∈ l, ¬ quaB tm lo cur k) ∧
    (∀ y, r = some y → (acc = some y ∨ (y.1 ∈ l ∧ quaB tm lo cur y.1 ∧ y.2 = untE tm cur y.1)) ∧ (∀ z, acc = some z → tm z.2 ≤ tm y.2) ∧ ∀ k ∈ l, quaB tm lo cur k → tm (untE tm cur k) ≤ tm y.2)
  | [], acc, r, h => by
    cases h
    exact ⟨fun h => ⟨h, fun k hk => by simp at hk⟩, fun y hy => ⟨.inl hy, fun z hz => by have hy : acc = some y := hy; rw [hy] at hz; cases hz; exact Int.le_refl _, fun k hk => by simp at hk⟩⟩
  | k :: l, acc, r, h => by
    rw [List.foldl_cons] at h
    obtain ⟨i1, i2⟩ := chooseF_law lo cur l _ r h
    rcases chStep_is hbf lo cur acc k with ⟨hq, hs⟩ | ⟨hq, hs⟩
    · rw [hs] at i1 i2
      constructor
      · intro hr
        have := (i1 hr).1
        cases acc with
        | none => simp at this
        | some y => simp only at this; split at this <;> simp at this
      · intro y hy
        obtain ⟨j1, j2, j3⟩ := i2 y hy
        cases acc with
        | none =>
          simp only at j1 j2
          have hk := j2 _ rfl
          refine ⟨.inr ?_, fun z hz => by simp at hz, fun x hx hxq => ?_⟩
          · rcases j1 with j1 | ⟨a, b, c⟩
            · simp only [Option.some.injEq] at j1
              subst j1
              exact ⟨by simp, hq, rfl⟩
            · exact ⟨by simp [a], b, c⟩
          · rcases List.mem_cons.1 hx with rfl | hx
            · exact hk
            · exact j3 x hx hxq
        | some z =>
          simp only at j1 j2
          by_cases hlt : tm z.2 < tm (untE tm cur k)
          · rw [if_pos hlt] at j1 j2
            have hk := j2 _ rfl
            simp only at hk
            refine ⟨.inr ?_, fun w hw => by simp only [Option.some.injEq] at hw; subst hw; omega, fun x hx hxq => ?_⟩
            · rcases j1 with j1 | ⟨a, b, c⟩
              · simp only [Option.some.injEq] at j1
                subst j1
                exact ⟨by simp, hq, rfl⟩
              · exact ⟨by simp [a], b, c⟩
            · rcases List.mem_cons.1 hx with rfl | hx
              · exact hk
              · exact j3 x hx hxq
          · rw [if_neg hlt] at j1 j2
            have hk := j2 _ rfl
            refine ⟨?_, fun w hw => by simp only [Option.some.injEq] at hw; subst hw; exact hk, fun x hx hxq => ?_⟩
            · rcases j1 with j1 | ⟨a, b, c⟩
              · exact .inl j1
              · exact .inr ⟨by simp [a], b, c⟩
            · rcases List.mem_cons.1 hx with rfl | hx
              · omega
              · exact j3 x hx hxq
    · rw [hs] at i1 i2
      constructor
      · intro hr
        refine ⟨(i1 hr).1, fun x hx => ?_⟩
        rcases List.mem_cons.1 hx with rfl | hx
        · exact hq
        · exact (i1 hr).2 x hx
      · intro y hy
        obtain ⟨j1, j2, j3⟩ := i2 y hy
        refine ⟨?_, j2, fun x hx hxq => ?_⟩
        · rcases j1 with j1 | ⟨a, b, c⟩
          · exact .inl j1
          · exact .inr ⟨by simp [a], b, c⟩
        · rcases List.mem_cons.1 hx with rfl | hx
          · exact absurd hxq hq
          · exact j3 x hx hxq
/-- What is true of a segment: whose it is, that it lies in its time, and that no child of it runs meanwhile. -/
structure SegOk (L : List Spn) (kid : Int → List Spn) (tm : Ev → Int) (s : Spn) (g : Sg) (x : Spn) : Prop where
  mem : x ∈ L
  sp : g.sp = (x.tr, x.id)
  dsc : Dsc L s x
  fr : tm (evOf x false) ≤ tm g.fr
  to : tm g.to ≤ tm (evOf x true)
  lt : tm g.fr < tm g.to
  free : ∀ k ∈ kid x.id, ¬ (tm (evOf k false) < tm g.to ∧ tm g.fr < tm (evOf k true) ∧ tm (evOf k false) < tm (evOf k true))
theorem wkF_law {L : List Spn} {kid : Int → List Spn} (hkid : ∀ k, ∀ z ∈ kid k, z ∈ L ∧ z.pa = k) : ∀ (n : Nat) (s : Spn) (lo cur : Ev) (q : List Sg), s ∈ L → wkF bf kid n s lo cur = some q → tm (evOf s false) ≤ tm lo → tm cur ≤ tm (evOf s true) →
    (tm lo < tm cur → TilQ tm q lo cur) ∧ (¬ tm lo < tm cur → q = []) ∧ ∀ g ∈ q, ∃ x, SegOk L kid tm s g x := by
  intro n
  induction n with
  | zero => intro s lo cur q _ h; simp [wkF] at h
  | succ n ih =>
    intro s lo cur q hsL h hlo hcur
    by_cases hA : tm lo < tm cur
    · have hA2 : askB bf lo cur = true := by rw [askB_is hbf]; simp [hA]
      cases hC : chooseF bf (kid s.id) lo cur with
      | none =>
        have hq := wkF_none h hA2 hC
        subst hq
        have hl := ((chooseF_law hbf lo cur (kid s.id) none none hC).1 rfl).2
        refine ⟨fun _ => ⟨rfl, hA, rfl⟩, fun hn => absurd hA hn, fun g hg => ?_⟩
        simp only [List.mem_singleton] at hg
        subst hg
        exact ⟨s, hsL, rfl, .refl, hlo, hcur, hA, fun k hk hx => hl k hk hx⟩
      | some y =>
        obtain ⟨c, v⟩ := y
        obtain ⟨q1, q2, hw1, hw2, rfl⟩ := wkF_some h hA2 hC
        obtain ⟨j1, _, j3⟩ := (chooseF_law hbf lo cur (kid s.id) none _ hC).2 _ rfl
        rcases j1 with j1 | ⟨hcm, hcq, hv⟩
        · simp at j1
        simp only at hcm hcq hv j3
        obtain ⟨hcL, hcp⟩ := hkid _ c hcm
        obtain ⟨g1, g2, g3⟩ := hcq
        have hbE : (if askB bf lo (evOf c false) = true then evOf c false else lo) = if tm lo < tm (evOf c false) then evOf c false else lo := by
          rw [askB_is hbf]; by_cases hx : tm lo < tm (evOf c false) <;> simp [hx]
        rw [hbE] at hw1 hw2
        obtain ⟨b, hb⟩ : ∃ b, b = if tm lo < tm (evOf c false) then evOf c false else lo := ⟨_, rfl⟩
        rw [← hb] at hw1 hw2
        have hvt : tm v ≤ tm cur ∧ tm v ≤ tm (evOf c true) ∧ (v = cur ∨ (v = evOf c true ∧ tm v < tm cur)) := by
          rw [hv]; unfold untE
          by_cases hx : tm (evOf c true) < tm cur
          · rw [if_pos hx]; exact ⟨by omega, by omega, .inr ⟨rfl, hx⟩⟩
          · rw [if_neg hx]; exact ⟨by omega, by omega, .inl rfl⟩
        have hv2 : tm v = tm cur ∨ tm v = tm (evOf c true) := by
          rcases hvt.2.2 with e | ⟨e, _⟩
          · exact .inl (by rw [e])
          · exact .inr (by rw [e])
        have hbt : tm (evOf c false) ≤ tm b ∧ tm lo ≤ tm b ∧ (b = lo ∨ (b = evOf c false ∧ tm lo < tm b)) ∧ (tm b = tm lo ∨ tm b = tm (evOf c false)) := by
          rw [hb]
          by_cases hx : tm lo < tm (evOf c false)
          · rw [if_pos hx]; exact ⟨by omega, by omega, .inr ⟨rfl, hx⟩, .inr rfl⟩
          · rw [if_neg hx]; exact ⟨by omega, by omega, .inl rfl, .inl rfl⟩
        have hbv : tm b < tm v := by
          rcases hv2 with e | e <;> rcases hbt.2.2.2 with e2 | e2 <;> omega
        obtain ⟨t1, _, s1⟩ := ih c b v q1 hcL hw1 hbt.1 hvt.2.1
        obtain ⟨t2, n2, s2⟩ := ih s lo b q2 hsL hw2 hlo (by omega)
        have t1 := t1 hbv
        have t2 : TilQ tm q2 lo b := by
          rcases hbt.2.2.1 with e | ⟨_, e⟩
          · have := n2 (by rw [e]; omega)
            rw [this]; exact e.symm
          · exact t2 e
        have hloV : tm lo < tm v := by omega
        refine ⟨fun _ => ?_, fun hn => absurd hA hn, fun g hg => ?_⟩
        · have t3 : TilQ tm (q1 ++ q2) lo v := t1.app t2
          rcases hvt.2.2 with e | ⟨e, e2⟩
          · rw [if_pos e, List.nil_append, ← e]; exact t3
          · rw [if_neg (fun e3 => by rw [e3] at e2; omega)]
            exact ⟨rfl, e2, t3⟩
        · rw [List.append_assoc, List.mem_append, List.mem_append] at hg
          rcases hg with hg | hg | hg
          · split at hg
            · simp at hg
            · rename_i hne
              simp only [List.mem_singleton] at hg
              subst hg
              have e2 : tm v < tm cur := by
                rcases hvt.2.2 with e | ⟨_, e⟩
                · exact absurd e hne
                · exact e
              refine ⟨s, hsL, rfl, .refl, by show tm (evOf s false) ≤ tm v; omega, hcur, e2, fun k hk hx => ?_⟩
              obtain ⟨x1, x2, x3⟩ := hx
              simp only at x1 x2
              have := j3 k hk ⟨x1, by omega, x3⟩
              unfold untE at this
              split at this <;> omega
          · obtain ⟨x, hx⟩ := s1 g hg
            exact ⟨x, hx.mem, hx.sp, hx.dsc.trans (.step .refl hcL hcp), hx.fr, hx.to, hx.lt, hx.free⟩
          · exact s2 g hg
    · have hA2 : askB bf lo cur = false := by rw [askB_is hbf]; simp [hA]
      have hq := wkF_no h hA2
      subst hq
      exact ⟨fun h => absurd h hA, fun _ => rfl, fun g hg => by simp at hg⟩
end
end Go.Proofs.YtaaflhmfhnfjhaaGreat
namespace Go.Proofs.YtaaflhmfhnfjhaaGreat
open Go.RowKit Go.Exe
/-! ### the path of a story's span -/
def TilP (tm : Ev → Int) : List Sg → Ev → Ev → Prop
  | [], lo, cur => lo = cur
  | g :: p, lo, cur => g.fr = lo ∧ tm g.fr < tm g.to ∧ TilP tm p g.to cur
theorem TilP.snoc {tm : Ev → Int} : ∀ {p : List Sg} {g : Sg} {lo cur : Ev}, TilP tm p lo g.fr → g.to = cur → tm g.fr < tm cur → TilP tm (p ++ [g]) lo cur
  | [], g, lo, cur, h, h2, h3 => by cases h; exact ⟨rfl, by rw [h2]; exact h3, h2⟩
  | _ :: _, _, _, _, h, h2, h3 => ⟨h.1, h.2.1, TilP.snoc h.2.2 h2 h3⟩
theorem TilQ.rev {tm : Ev → Int} : ∀ {q : List Sg} {lo cur : Ev}, TilQ tm q lo cur → TilP tm q.reverse lo cur
  | [], _, _, h => h
  | g :: q, lo, cur, h => by
    rw [List.reverse_cons]
    exact (TilQ.rev h.2.2).snoc h.1 h.2.1
theorem wkF_ev {bf : Ev → Ev → Bool} {kid : Int → List Spn} {E : Ev → Prop} (hE : ∀ k, ∀ z ∈ kid k, E (evOf z false) ∧ E (evOf z true)) : ∀ {n : Nat} {s : Spn} {lo cur : Ev} {q : List Sg}, wkF bf kid n s lo cur = some q → E lo → E cur → ∀ g ∈ q, E g.fr ∧ E g.to
  | 0, _, _, _, _, h, _, _ => by simp [wkF] at h
  | n + 1, s, lo, cur, q, h, hlo, hcur => by
    cases hA : askB bf lo cur with
    | false => rw [wkF_no h hA]; intro g hg; simp at hg
    | true =>
      cases hC : chooseF bf (kid s.id) lo cur with
      | none =>
        rw [wkF_none h hA hC]
        intro g hg
        simp only [List.mem_singleton] at hg
        subst hg
        exact ⟨hlo, hcur⟩
      | some y =>
        obtain ⟨c, v⟩ := y
        obtain ⟨q1, q2, h1, h2, rfl⟩ := wkF_some h hA hC
        have hv : E v := (chooseF_congr (bf := bf) (bf' := bf) (E := E) (l := kid s.id) (fun _ _ _ _ => rfl) (fun c hc => hE _ c hc) hlo hcur).2 _ hC
        have hc := hE _ c (chooseF_mem hC)
        have hb : E (if askB bf lo (evOf c false) = true then evOf c false else lo) := by
          split
          · exact hc.1
          · exact hlo
        intro g hg
        rw [List.append_assoc, List.mem_append, List.mem_append] at hg
        rcases hg with hg | hg | hg
        · split at hg
          · simp at hg
          · simp only [List.mem_singleton] at hg
            subst hg
            exact ⟨hv, hcur⟩
        · exact wkF_ev hE h1 hb hv g hg
        · exact wkF_ev hE h2 hlo hb g hg
structure PthIs (L : List Spn) (v : List Of) (r : Spn) (p : List Sg) : Prop where
  til : timM L v (evOf r false) < timM L v (evOf r true) → TilP (timM L v) p (evOf r false) (evOf r true)
  nil : ¬ timM L v (evOf r false) < timM L v (evOf r true) → p = []
  seg : ∀ g ∈ p, ∃ x, SegOk L (kidL L) (timM L v) r g x
  ev : ∀ g ∈ p, g.fr ∈ evsL L ∧ g.to ∈ evsL L
theorem kidL_mem {L : List Spn} {k : Int} {z : Spn} (h : z ∈ kidL L k) : z ∈ L ∧ z.pa = k ∧ z.kd ≠ 5 := by
  obtain ⟨h1, h2⟩ := List.mem_filter.1 h
  simp only [Bool.and_eq_true, beq_iff_eq, bne_iff_ne] at h2
  exact ⟨h1, h2⟩
theorem Trn.pth {l L : List Spn} {tr : Int} (h : Trn l L tr) (v : List Of) {r : Spn} (hr : r ∈ L) : ∃ p, pthM L v r.id = (0, p) ∧ PthIs L v r p := by
  obtain ⟨q, hq⟩ := h.fuel v hr (evOf r false) (evOf r true)
  rw [h.sameM v 25 hr (evs_mem hr _) (evs_mem hr _)] at hq
  have hP : pthM L v r.id = (0, q.reverse) := by
    unfold pthM
    cases hs : Go.Proofs.YtaaflhmfhnfjhaaGreat.spId L r.id with
    | none =>
      unfold Go.Proofs.YtaaflhmfhnfjhaaGreat.spId at hs
      rw [List.find?_eq_none] at hs
      exact absurd (by simp) (hs r hr)
    | some s =>
      obtain ⟨h1, h2⟩ := spId_mem hs
      have he := id_eq h.nd h1 hr h2
      subst he
      simp only
      rw [hq]; rfl
  obtain ⟨l1, l2, l3⟩ := wkF_law (tm := timM L v) (bf := bfM L v) (fun _ _ => rfl) (L := L) (kid := kidL L) (fun k z hz => ⟨(kidL_mem hz).1, (kidL_mem hz).2.1⟩) 25 r _ _ q hr hq (Int.le_refl _) (Int.le_refl _)
  have l4 := wkF_ev (E := fun x => x ∈ evsL L) (fun k z hz => ⟨evs_mem (kidL_mem hz).1 _, evs_mem (kidL_mem hz).1 _⟩) hq (evs_mem hr _) (evs_mem hr _)
  refine ⟨q.reverse, hP, fun hlt => (l1 hlt).rev, fun hn => by rw [l2 hn]; rfl, fun g hg => l3 g (List.mem_reverse.1 hg), fun g hg => l4 g (List.mem_reverse.1 hg)⟩
/-- The times of a story are small. -/
theorem tim_small {s : Sto} {t : Tre} (h8 : t.cs.length ≤ 8) {x : Ev} (hx : x ∈ evsL (trcS s 0 t)) : -2000 < timM (trcS s 0 t) (offT s 4) x ∧ timM (trcS s 0 t) (offT s 4) x < 4000 := by
  have b1 := offC_b s 1
  have b2 := offC_b s 2
  have b3 := offC_b s 3
  have b4 := offC_b s 4
  obtain ⟨z, hz, hx⟩ := List.mem_flatMap.1 hx
  have key : ∀ e, -2000 < timM (trcS s 0 t) (offT s 4) (evOf z e) ∧ timM (trcS s 0 t) (offT s 4) (evOf z e) < 4000 := fun e => by
    rw [show offT s 4 = off4 (offC s 1) (offC s 2) (offC s 3) (offC s 4) from offT_4 s]
    rw [tim4 h8 hz e (by omega) (by omega) (by omega) (by omega)]
    have h1 := at_small h8 hz e
    obtain ⟨i, y, hi, rfl⟩ := trcS_mem hz
    have h4 : y.cl % 4 < 4 := Nat.mod_lt _ (by omega)
    have h5 := offI_4 (offC s 1) (offC s 2) (offC s 3) (offC s 4) (y.cl % 4) h4
    have h7 : (spnS s 0 t i y).clk = ((1 + y.cl % 4 : Nat) : Int) := rfl
    rw [h7, h5]
    split
    · omega
    · split
      · omega
      · split <;> omega
  simp only [List.mem_cons, List.not_mem_nil, or_false] at hx
  rcases hx with rfl | rfl
  · exact key false
  · exact key true
theorem tim_is {s : Sto} {t : Tre} (h8 : t.cs.length ≤ 8) {z : Spn} (hz : z ∈ trcS s 0 t) (e : Bool) : ∃ k : Nat, 1 ≤ k ∧ k ≤ 4 ∧ z.clk = ((k : Nat) : Int) ∧ timM (trcS s 0 t) (offT s 4) (evOf z e) = atS z e - offC s k := by
  have b1 := offC_b s 1
  have b2 := offC_b s 2
  have b3 := offC_b s 3
  have b4 := offC_b s 4
  rw [show offT s 4 = off4 (offC s 1) (offC s 2) (offC s 3) (offC s 4) from offT_4 s]
  rw [tim4 h8 hz e (by omega) (by omega) (by omega) (by omega)]
  obtain ⟨i, y, hi, rfl⟩ := trcS_mem hz
  have h4 : y.cl % 4 < 4 := Nat.mod_lt _ (by omega)
  have h5 := offI_4 (offC s 1) (offC s 2) (offC s 3) (offC s 4) (y.cl % 4) h4
  have h7 : (spnS s 0 t i y).clk = ((1 + y.cl % 4 : Nat) : Int) := rfl
  refine ⟨1 + y.cl % 4, by omega, by omega, h7, ?_⟩
  rw [h7, h5]
  generalize y.cl % 4 = k at *
  rcases k with _ | _ | _ | _ | k
  · rfl
  · rfl
  · rfl
  · rfl
  · omega
theorem getD_set_max (L : List Nat) (p i v : Nat) : (L.getD i 0) ≤ (L.set p (max (L.getD p 0) v)).getD i 0 := by
  simp only [List.getD_eq_getElem?_getD, List.getElem?_set]
  by_cases h : p = i
  · subst h
    by_cases hp : p < L.length
    · simp [hp]; omega
    · simp [hp, List.getElem?_eq_none (by omega : L.length ≤ p)]
  · simp [h]
theorem enG_ge (t : Tre) : ∀ (n : Nat) (L : List Nat) (i : Nat), L.getD i 0 ≤ (enG t n L).getD i 0
  | 0, L, i => by simp [enG]
  | n + 1, L, i => by
    rw [enG]
    refine Nat.le_trans ?_ (enG_ge t n _ i)
    unfold stepE
    split
    · exact getD_set_max _ _ _ _
    · exact Nat.le_refl _
theorem st_le_en (t : Tre) (i : Nat) (hi : i < t.cs.length) : (stL t).getD i 0 ≤ (enL t).getD i 0 := by
  have key : ∀ n, n ≤ t.cs.length → ∀ i, i < n → (stF t n).getD i 0 ≤ (enF t n).getD i 0 := by
    intro n
    induction n with
    | zero => intro _ i h; omega
    | succ n ih =>
      intro hn i hin
      have hc := List.getElem?_eq_getElem (by omega : n < t.cs.length)
      rw [stF_at hc, enF_at hc]
      have l1 := stF_len t n (by omega)
      have l2 := enF_len t n (by omega)
      simp only [List.getD_eq_getElem?_getD] at ih ⊢
      by_cases h : i < n
      · rw [List.getElem?_append_left (by omega), List.getElem?_append_left (by omega)]
        exact ih (by omega) i h
      · obtain rfl : i = n := by omega
        rw [List.getElem?_append_right (by omega), List.getElem?_append_right (by omega), l1, l2, Nat.sub_self]
        simp
  exact Nat.le_trans (key _ (Nat.le_refl _) i hi) (enG_ge t _ _ i)
theorem story_st_en {s : Sto} {t : Tre} {z : Spn} (hz : z ∈ trcS s 0 t) : z.st ≤ z.en := by
  obtain ⟨i, c, hi, rfl⟩ := trcS_mem hz
  have h := st_le_en t i (List.getElem?_eq_some_iff.1 hi).1
  show (((stL t).getD i 0 : Nat) : Int) + byS s 0 i c ≤ (((enL t).getD i 0 : Nat) : Int) + byS s 0 i c
  omega
/-! ### below -/
theorem Dsc.mem {L : List Spn} {s x : Spn} (h : Dsc L s x) (hs : s ∈ L) : x ∈ L := by
  cases h with
  | refl => exact hs
  | step _ h2 _ => exact h2
attribute [local irreducible] W AX Run RunD AStep AOp AOpX AStB AStH AStG Fits PCall GCall PostG Post Stop
end Go.Proofs.YtaaflhmfhnfjhaaGreat
namespace Go.Proofs.YtaaflhmfhnfjhaaGreat
open Go.RowKit Go.Exe
/-! ### CriticalTiles -/
theorem Trn.timLl {l L : List Spn} {tr : Int} (h : Trn l L tr) (v : List Of) {x : Ev} (hx : x ∈ evsL L) : timM l v x = timM L v x := by
  obtain ⟨s, hs, hx⟩ := List.mem_flatMap.1 hx
  have hsl := h.perm.mem_iff.1 hs
  have key : ∀ e, timM l v (evOf s e) = timM L v (evOf s e) := fun e => by rw [timM_is v h.ndl hsl e, timM_is v h.nd hs e]
  simp only [List.mem_cons, List.not_mem_nil, or_false] at hx
  rcases hx with rfl | rfl
  · exact key false
  · exact key true
theorem Trn.badE {l L : List Spn} {tr : Int} (h : Trn l L tr) {x : Ev} (hx : x ∈ evsL L) : Go.Proofs.YtaaflhmfhnfjhaaGreat.badE l tr x = false := by
  obtain ⟨s, hs, hx⟩ := List.mem_flatMap.1 hx
  have hsl := h.perm.mem_iff.1 hs
  have key : ∀ e, Go.Proofs.YtaaflhmfhnfjhaaGreat.badE l tr (evOf s e) = false := fun e => by
    unfold Go.Proofs.YtaaflhmfhnfjhaaGreat.badE
    have h1 : ¬ atI l s.id < 0 := by
      unfold atI
      cases hf : l.findIdx? (fun x => x.id == s.id) with
      | none =>
        rw [List.findIdx?_eq_none_iff] at hf
        have := hf s hsl
        simp at this
      | some i => simp
    have h2 : s.tr = tr := h.tr s hs
    simp [evOf, h1, h2]
  simp only [List.mem_cons, List.not_mem_nil, or_false] at hx
  rcases hx with rfl | rfl
  · exact key false
  · exact key true
/-- What Lengths answers for a path of the trace. -/
theorem Trn.c24 {l L : List Spn} {tr : Int} (h : Trn l L tr) {v : List Of} (hc : chkE l v = 0) (hv : ∀ y ∈ v, I64 y.1) {p : List Sg} (hp : ∀ g ∈ p, g.fr ∈ evsL L ∧ g.to ∈ evsL L) : PCall Tryz.prog 24 [spsT l, ofsT v, sgsT p] (.t [(false, [.im (.sl 3 ((p.map (lenM L v)).map iA))]), (false, [fl (.int .i64 0)])]) := by
  have c := lengths_c l v p (fun s hs => (h.intl s hs).2.2.2) hv
  have hb : p.any (badG l tr) = false := by
    rw [List.any_eq_false]
    intro g hg
    unfold badG
    rw [h.badE (hp g hg).1, h.badE (hp g hg).2]; simp
  unfold lenT at c
  rw [if_neg (by rw [hc]; simp), h.lenS hc, hb] at c
  simp only [Bool.false_eq_true, if_false] at c
  have e : p.map (lenM l v) = p.map (lenM L v) := List.map_congr_left fun g hg => by
    unfold lenM; rw [h.timLl v (hp g hg).1, h.timLl v (hp g hg).2]
  rw [e] at c
  exact c
attribute [local irreducible] W AX Run RunD AStep AOp AOpX AStB AStH AStG Fits PCall GCall PostG Post Stop
end Go.Proofs.YtaaflhmfhnfjhaaGreat
namespace Go.Proofs.YtaaflhmfhnfjhaaGreat
open Go.RowKit Go.Exe
/-! ### counting the ints of a span of time -/
def cntZ (P : Int → Bool) (a : Int) (n : Nat) : Nat := (List.range n).countP fun j => P (a + (j : Nat))
theorem cntZ_succ (P : Int → Bool) (a : Int) (n : Nat) : cntZ P a (n + 1) = cntZ P a n + (if P (a + (n : Nat)) then 1 else 0) := by
  simp [cntZ, List.range_succ, List.countP_append, List.countP_cons]
theorem cntZ_add (P : Int → Bool) (a : Int) (n : Nat) : ∀ m, cntZ P a (n + m) = cntZ P a n + cntZ P (a + (n : Nat)) m
  | 0 => by simp [cntZ]
  | m + 1 => by
    rw [← Nat.add_assoc, cntZ_succ, cntZ_succ, cntZ_add P a n m, show a + ((n + m : Nat) : Int) = a + (n : Nat) + (m : Nat) by omega]
    omega
theorem cntZ_le (P Q : Int → Bool) (a : Int) : ∀ n : Nat, (∀ j : Nat, j < n → P (a + (j : Nat)) = true → Q (a + (j : Nat)) = true) → cntZ P a n ≤ cntZ Q a n
  | 0, _ => by simp [cntZ]
  | n + 1, h => by
    have ih := cntZ_le P Q a n fun j hj => h j (by omega)
    rw [cntZ_succ, cntZ_succ]
    have h1 := h n (by omega)
    cases hp : P (a + (n : Nat)) with
    | false => simp; omega
    | true => rw [h1 hp]; simp; omega
theorem cntZ_all (P : Int → Bool) (a : Int) : ∀ n : Nat, (∀ j : Nat, j < n → P (a + (j : Nat)) = true) → cntZ P a n = n
  | 0, _ => by simp [cntZ]
  | n + 1, h => by rw [cntZ_succ, cntZ_all P a n fun j hj => h j (by omega), h n (by omega)]; simp
theorem cntZ_none (P : Int → Bool) (a : Int) : ∀ n : Nat, (∀ j : Nat, j < n → P (a + (j : Nat)) = false) → cntZ P a n = 0
  | 0, _ => by simp [cntZ]
  | n + 1, h => by rw [cntZ_succ, cntZ_none P a n fun j hj => h j (by omega), h n (by omega)]; simp
/-- The ints from a to b of which P is true. -/
def cntI2 (P : Int → Bool) (a b : Int) : Nat := cntZ P a (b - a).toNat
theorem cntI2_add (P : Int → Bool) {a b c : Int} (h1 : a ≤ b) (h2 : b ≤ c) : cntI2 P a c = cntI2 P a b + cntI2 P b c := by
  unfold cntI2
  rw [show (c - a).toNat = (b - a).toNat + (c - b).toNat by omega, cntZ_add, show a + ((b - a).toNat : Int) = b by omega]
theorem cntI2_in {P Q : Int → Bool} {a b s e : Int} (hab : a ≤ b) (hse : s ≤ e) (h : ∀ τ, P τ = true → (s ≤ τ ∧ τ < e) ∧ Q τ = true) : cntI2 P a b ≤ cntI2 Q s e := by
  have hA : ∀ x y : Int, (∀ τ, x ≤ τ → τ < y → P τ = false) → cntI2 P x y = 0 := fun x y hx => cntZ_none P x _ fun j hj => hx _ (by omega) (by omega)
  have h1 : cntI2 P a b ≤ cntI2 P (min a s) (max b e) := by
    rw [cntI2_add P (show min a s ≤ a by omega) (show a ≤ max b e by omega), cntI2_add P hab (show b ≤ max b e by omega)]
    omega
  have h2 : cntI2 P (min a s) (max b e) = cntI2 P s e := by
    rw [cntI2_add P (show min a s ≤ s by omega) (show s ≤ max b e by omega), cntI2_add P hse (show e ≤ max b e by omega)]
    rw [hA (min a s) s fun τ _ h2 => by
        rw [Bool.eq_false_iff]; intro h3; have := (h τ h3).1; omega]
    rw [hA e (max b e) fun τ h1 _ => by
        rw [Bool.eq_false_iff]; intro h3; have := (h τ h3).1; omega]
    omega
  have h3 : cntI2 P s e ≤ cntI2 Q s e := cntZ_le P Q s _ fun j _ hp => (h _ hp).2
  omega
/-! ### what a span has of a path -/
def rS (tm : Ev → Int) (id : Int) : List Sg → Int
  | [] => 0
  | g :: p => (if g.sp.2 = id then tm g.to - tm g.fr else 0) + rS tm id p
theorem TilP.le {tm : Ev → Int} : ∀ {p : List Sg} {lo cur : Ev}, TilP tm p lo cur → tm lo ≤ tm cur
  | [], _, _, h => by cases h; exact Int.le_refl _
  | g :: p, lo, cur, h => by
    have := TilP.le h.2.2
    have h1 := h.2.1
    rw [← h.1]
    omega
theorem rS_b {tm : Ev → Int} {id : Int} : ∀ {p : List Sg} {lo cur : Ev}, TilP tm p lo cur → 0 ≤ rS tm id p ∧ rS tm id p ≤ tm cur - tm lo
  | [], lo, cur, h => by cases h; simp [rS]
  | g :: p, lo, cur, h => by
    obtain ⟨h1, h2⟩ := rS_b (id := id) h.2.2
    have h3 := h.2.1
    have h4 : tm g.fr = tm lo := by rw [h.1]
    simp only [rS]
    split <;> omega
theorem rS_pos {tm : Ev → Int} {id : Int} : ∀ {p : List Sg} {lo cur : Ev}, TilP tm p lo cur → (rS tm id p ≠ 0 ↔ (p.any fun g => decide (g.sp.2 = id)) = true)
  | [], lo, cur, h => by simp [rS]
  | g :: p, lo, cur, h => by
    have h1 := rS_b (id := id) h.2.2
    have h2 := rS_pos (id := id) h.2.2
    have h3 := h.2.1
    simp only [rS, List.any_cons, Bool.or_eq_true, decide_eq_true_eq]
    by_cases e : g.sp.2 = id
    · rw [if_pos e]
      exact ⟨fun _ => .inl e, fun _ => by omega⟩
    · rw [if_neg e, Int.zero_add]
      constructor
      · intro h4; exact .inr (h2.1 h4)
      · intro h4
        rcases h4 with h4 | h4
        · exact absurd h4 e
        · exact h2.2 h4
theorem rS_cnt {tm : Ev → Int} {id : Int} {P : Int → Bool} : ∀ {p : List Sg} {lo cur : Ev}, TilP tm p lo cur → (∀ g ∈ p, g.sp.2 = id → ∀ τ, tm g.fr ≤ τ → τ < tm g.to → P τ = true) → rS tm id p ≤ cntI2 P (tm lo) (tm cur)
  | [], lo, cur, h, _ => by simp [rS]
  | g :: p, lo, cur, h, hP => by
    have ih := rS_cnt (id := id) (P := P) h.2.2 fun g hg => hP g (by simp [hg])
    have h3 := h.2.1
    have h4 : tm g.fr = tm lo := by rw [h.1]
    have h5 := TilP.le h.2.2
    rw [cntI2_add P (show tm lo ≤ tm g.to by omega) h5]
    simp only [rS]
    by_cases e : g.sp.2 = id
    · rw [if_pos e]
      have : cntI2 P (tm lo) (tm g.to) = (tm g.to - tm lo).toNat := cntZ_all P _ _ fun j hj => hP g (by simp) e _ (by omega) (by omega)
      omega
    · rw [if_neg e]
      omega
def wS (tm : Ev → Int) (id : Int) (p : List Sg) (n : Int) : Int := p.foldl (fun n g => if g.sp.2 = id then IntKind.i64.wrap (IntKind.i64.wrap (n + tm g.to) - tm g.fr) else n) n
def eS (tm : Ev → Int) (id : Int) (p : List Sg) (n : Int) : Int := p.foldl (fun n g => if g.sp.2 = id then IntKind.i64.wrap (n + IntKind.i64.wrap (tm g.to - tm g.fr)) else n) n
theorem wS_is {tm : Ev → Int} {id : Int} : ∀ {p : List Sg} {lo cur : Ev} {n : Int}, TilP tm p lo cur → (∀ g ∈ p, (-10000 < tm g.fr ∧ tm g.fr < 10000) ∧ -10000 < tm g.to ∧ tm g.to < 10000) → 0 ≤ n → n + (tm cur - tm lo) ≤ 100000 → wS tm id p n = n + rS tm id p ∧ eS tm id p n = n + rS tm id p
  | [], _, _, n, _, _, _, _ => by simp [wS, eS, rS]
  | g :: p, lo, cur, n, h, hb, hn, hc => by
    have h3 := h.2.1
    have h4 : tm g.fr = tm lo := by rw [h.1]
    have h5 := TilP.le h.2.2
    obtain ⟨b1, b2⟩ := hb g (by simp)
    simp only [wS, eS, List.foldl_cons, rS]
    by_cases e : g.sp.2 = id
    · simp only [if_pos e]
      have w1 : IntKind.i64.wrap (n + tm g.to) = n + tm g.to := w64 (by omega) (by omega)
      have w2 : IntKind.i64.wrap (n + tm g.to - tm g.fr) = n + (tm g.to - tm g.fr) := by rw [w64 (by omega) (by omega)]; omega
      have w3 : IntKind.i64.wrap (tm g.to - tm g.fr) = tm g.to - tm g.fr := w64 (by omega) (by omega)
      have w4 : IntKind.i64.wrap (n + (tm g.to - tm g.fr)) = n + (tm g.to - tm g.fr) := w64 (by omega) (by omega)
      obtain ⟨i1, i2⟩ := wS_is (id := id) (n := n + (tm g.to - tm g.fr)) h.2.2 (fun g hg => hb g (by simp [hg])) (by omega) (by omega)
      unfold wS at i1
      unfold eS at i2
      rw [w1, w2, w3, w4, i1, i2]
      omega
    · simp only [if_neg e]
      obtain ⟨i1, i2⟩ := wS_is (id := id) (n := n) h.2.2 (fun g hg => hb g (by simp [hg])) hn (by omega)
      unfold wS at i1
      unfold eS at i2
      rw [i1, i2]
      omega
/-! ### the list that Exclusive answers -/
def exM (L : List Spn) (v : List Of) (m : List Of) (p : List Sg) : List Of := p.foldl (fun m g => putO m (g.sp.2, IntKind.i64.wrap ((getO m g.sp.2).getD 0 + lenM L v g))) m
theorem exN_is (L : List Spn) (v : List Of) (p : List Sg) : exN p (p.map (lenM L v)) p.length = exM L v [] p := by
  unfold exN exM
  have h : p.zip (p.map (lenM L v)) = p.map fun g => (g, lenM L v g) := by
    induction p with
    | nil => rfl
    | cons g p ih => simp [ih]
  rw [h, List.take_of_length_le (by simp), List.foldl_map]
theorem exM_get (L : List Spn) (v : List Of) (id : Int) : ∀ (p : List Sg) (m : List Of), getO (exM L v m p) id = if (p.any fun g => decide (g.sp.2 = id)) then some (eS (timM L v) id p ((getO m id).getD 0)) else getO m id
  | [], m => by simp [exM]
  | g :: p, m => by
    have ih := exM_get L v id p (putO m (g.sp.2, IntKind.i64.wrap ((getO m g.sp.2).getD 0 + lenM L v g)))
    have hstep : exM L v m (g :: p) = exM L v (putO m (g.sp.2, IntKind.i64.wrap ((getO m g.sp.2).getD 0 + lenM L v g))) p := rfl
    have heS : eS (timM L v) id (g :: p) ((getO m id).getD 0) = eS (timM L v) id p (if g.sp.2 = id then IntKind.i64.wrap ((getO m id).getD 0 + IntKind.i64.wrap (timM L v g.to - timM L v g.fr)) else (getO m id).getD 0) := rfl
    rw [hstep, ih, heS, getO_put, List.any_cons]
    by_cases e : g.sp.2 = id
    · simp only [e, if_true, Option.getD_some, decide_true, Bool.true_or]
      cases hp : (p.any fun g => decide (g.sp.2 = id)) with
      | true => simp [lenM]
      | false =>
        simp only [Bool.false_eq_true, if_false]
        have hz : ∀ n, eS (timM L v) id p n = n := by
          intro n
          have : ∀ (p : List Sg) n, (p.any fun g => decide (g.sp.2 = id)) = false → eS (timM L v) id p n = n := by
            intro p
            induction p with
            | nil => intro n _; rfl
            | cons y p ih =>
              intro n h
              simp only [List.any_cons, Bool.or_eq_false_iff, decide_eq_false_iff_not] at h
              show eS (timM L v) id p (if y.sp.2 = id then _ else n) = n
              rw [if_neg h.1]; exact ih n h.2
          exact this p n hp
        rw [hz]; rfl
    · simp only [e, if_false, decide_false, Bool.false_or]
theorem putO_keys (m : List Of) (x : Of) : ((m.map (·.1)).Nodup → ((putO m x).map (·.1)).Nodup) ∧ ∀ k, k ∈ (putO m x).map (·.1) ↔ k = x.1 ∨ k ∈ m.map (·.1) := by
  induction m with
  | nil => simp [putO]
  | cons y m ih =>
    simp only [putO]
    by_cases e : y.1 = x.1
    · rw [if_pos e]
      refine ⟨fun h => ?_, fun k => ?_⟩
      · simpa [e] using h
      · simp [e]
    · rw [if_neg e]
      refine ⟨fun h => ?_, fun k => ?_⟩
      · simp only [List.map_cons, List.nodup_cons] at h ⊢
        refine ⟨fun hc => ?_, ih.1 h.2⟩
        rcases (ih.2 y.1).1 hc with h2 | h2
        · exact e h2
        · exact h.1 h2
      · simp only [List.map_cons, List.mem_cons, ih.2 k]
        constructor
        · rintro (h | h | h)
          · exact .inr (.inl h)
          · exact .inl h
          · exact .inr (.inr h)
        · rintro (h | h | h)
          · exact .inr (.inl h)
          · exact .inl h
          · exact .inr (.inr h)
theorem exM_keys (L : List Spn) (v : List Of) : ∀ (p : List Sg) (m : List Of), ((m.map (·.1)).Nodup → ((exM L v m p).map (·.1)).Nodup) ∧ ∀ k, k ∈ (exM L v m p).map (·.1) ↔ (k ∈ m.map (·.1) ∨ (p.any fun g => decide (g.sp.2 = k)) = true)
  | [], m => by simp [exM]
  | g :: p, m => by
    have h1 := putO_keys m (g.sp.2, IntKind.i64.wrap ((getO m g.sp.2).getD 0 + lenM L v g))
    have ih := exM_keys L v p (putO m (g.sp.2, IntKind.i64.wrap ((getO m g.sp.2).getD 0 + lenM L v g)))
    refine ⟨fun h => ih.1 (h1.1 h), fun k => ?_⟩
    show k ∈ (exM L v (putO m (g.sp.2, IntKind.i64.wrap ((getO m g.sp.2).getD 0 + lenM L v g))) p).map (·.1) ↔ _
    rw [ih.2 k, h1.2 k, List.any_cons, Bool.or_eq_true, decide_eq_true_eq]
    constructor
    · rintro ((h | h) | h)
      · exact .inr (.inl h.symm)
      · exact .inl h
      · exact .inr (.inr h)
    · rintro (h | h | h)
      · exact .inl (.inr h)
      · exact .inl (.inl h.symm)
      · exact .inr h
/-- The answer of Exclusive: of the trace's spans, in order, those that are on the path. -/
theorem exF_is {L : List Spn} (hs : L.Pairwise fun a b => a.id < b.id) (v : List Of) {p : List Sg} (hp : ∀ g ∈ p, ∃ x ∈ L, g.sp.2 = x.id) : exF p (p.map (lenM L v)) = (L.filter fun z => p.any fun g => decide (g.sp.2 = z.id)).map fun z => (z.id, eS (timM L v) z.id p 0) := by
  unfold exF
  rw [exN_is]
  have hk := exM_keys L v p []
  have hsrt : srtI ((exM L v [] p).map (·.1)) = (L.filter fun z => p.any fun g => decide (g.sp.2 = z.id)).map Spn.id := by
    have hL2 : ((L.filter fun z => p.any fun g => decide (g.sp.2 = z.id)).map Spn.id).Pairwise (· < ·) := by
      rw [List.pairwise_map]
      exact hs.filter _
    have hpm : ((exM L v [] p).map (·.1)).Perm ((L.filter fun z => p.any fun g => decide (g.sp.2 = z.id)).map Spn.id) := by
      rw [List.perm_ext_iff_of_nodup (hk.1 (by simp)) (hL2.imp fun {a b} h e => by omega)]
      intro k
      rw [hk.2 k]
      simp only [List.map_nil, List.not_mem_nil, false_or, List.mem_map, List.mem_filter]
      constructor
      · intro h
        obtain ⟨g, hg, e⟩ := List.any_eq_true.1 h
        obtain ⟨x, hx, hx2⟩ := hp g hg
        have e2 : g.sp.2 = k := by simpa using e
        exact ⟨x, ⟨hx, by rw [← hx2, e2]; exact h⟩, by rw [← hx2, e2]⟩
      · rintro ⟨x, ⟨_, h⟩, rfl⟩
        exact h
    rw [srtI_uni hpm]
    exact List.mergeSort_of_pairwise (hL2.imp fun {a b} h => by simp; omega)
  rw [hsrt, List.map_map]
  refine List.map_congr_left fun z hz => ?_
  have hz2 := (List.mem_filter.1 hz).2
  simp only [Function.comp]
  rw [exM_get, if_pos hz2]
  simp [getO]
end Go.Proofs.YtaaflhmfhnfjhaaGreat
namespace Go.Proofs.YtaaflhmfhnfjhaaGreat
open Go.RowKit Go.Exe
/-! ### the document's self -/
def runS (l : List Spn) (v : List Of) (id : Int) (τ : Int) (k : Spn) : Bool := ((k.pa == id && k.kd != 5) && decide (timM l v (evOf k false) ≤ τ)) && decide (τ < timM l v (evOf k true))
def freeB (l : List Spn) (v : List Of) (id : Int) (τ : Int) : Bool := !(l.any (runS l v id τ))
theorem free_step {l : List Spn} {v : List Of} {id τ : Int} {i : Nat} {k : Spn} (h : l[i]? = some k) : (!((l.take (i + 1)).any (runS l v id τ))) = if runS l v id τ k then false else !((l.take i).any (runS l v id τ)) := by
  rw [List.take_add_one, h, Option.toList_some, List.any_append, List.any_cons, List.any_nil, Bool.or_false]
  cases (l.take i).any (runS l v id τ) <;> cases runS l v id τ k <;> rfl
abbrev clN (l : List Spn) (v : List Of) : Exe.Obj := .nbox 58 [.im (.sl 36 (l.map spA)), .im (.sl 80 (v.map ofA)), .orow 193 [], fl (.int .i64 0)]
attribute [local irreducible] W AX Run RunD AStep AOp AOpX AStB AStH AStG Fits PCall GCall PostG Post Stop
theorem self29_c (l : List Spn) (v : List Of) (id : Int) (j : Nat) (hj : l.findIdx? (fun x => x.id == id) = some j) (s : Spn) (hs : l[j]? = some s)
    (ha : -10000 < timM l v (evOf s false) ∧ timM l v (evOf s false) < 10000) (hb : -10000 < timM l v (evOf s true) ∧ timM l v (evOf s true) < 10000) :
    PCall Tryz.prog 29 [spsT l, ofsT v, ft (.int .i64 id)] (ft (.int .i64 (cntI2 (freeB l v id) (timM l v (evOf s false)) (timM l v (evOf s true)) : Nat))) := by
  have c18 := at18_c l id
  have hat : atI l id = (j : Nat) := by simp [atI, hj]
  rw [hat] at c18
  have c51 := event51_c
  simp only [spT, spA, evT, evA, evOf, List.map] at c51
  have c52 := blocks_c
  have c23 := fun x => time23_c l v [] 0 x
  have hjl : j < l.length := (List.findIdx?_eq_some_iff_getElem.1 hj).1
  have e2 : decide (j < l.length) = true := by simp [hjl]
  clear hj hat
  refine PCall.intro (nt := 76) (rs := [.tmp 6]) Tryz.func29 rfl ⟨by kernel_rfl, by kernel_rfl, by kernel_rfl⟩ (by simp) ?_
  rintro ⟨P, w0, ok0, may, np, pblk⟩ rfl rfl
  refine W.lenB 0 rfl tE36 fun hl0 hl1 => ?_
  rw [List.length_map] at hl1
  repeat' (first | refine W.stop (id := 3) ?_ | refine W.seq fun K hK => ?_ | refine W.block ?_ | ((first | refine wR ?_ | refine wD ?_ | refine W.skip ?_ | refine W.exit ?_ | refine W.ret (Post.ret ?_) | refine aP ?_ | refine aF ?_); simp only [go_sem, reduceCtorEq, List.getElem?_map, hs, spA, e2, List.length_map]) | refine wT ?_ | refine wF ?_ | refine wC (fun h => ?_) (fun h => ?_) | refine iK ?_ | refine aI2 ?_ | (refine hK _ ?_; clear hK K) | clear hK K)
  refine Stop.out ?_
  refine W.fits (s' := { t := [(0, spsT l), (2, ft (.int .i64 id)), (7, .c (.ptr 0 0)), (8, .c (.ptr 1 0))], h := [(0, clN l v), (1, .box 36 ((spA s).map .im))], nx := 2, ex := [], nt := 76 }) ?_ ?_
  · refine Fits.adoptB 4 58 _ 2 900 193 rfl rfl rfl rfl tE193 rfl (Fits.toNB 4 rfl (Fits.fold 4 0 2 900 (.orow 193 []) rfl rfl rfl (by simp [Obj.slot, refCell]) (by decide) ?_))
    refine Fits.fit [(4, 0), (12, 1)] [0, 2, 7, 8] 2 rfl rfl ?_
    simp only [go_sem, spA, List.map]
    exact Fits.rfl
  clear c18 hs e2
  have ka := c23 (evOf s false)
  have kb := c23 (evOf s true)
  simp only [clO, spT, spA, evT, evA, evOf, List.map] at ka kb
  generalize hA : timM l v (evOf s false) = a at *
  generalize hB : timM l v (evOf s true) = b at *
  simp only [evOf] at hA hB
  rw [hA] at ka
  rw [hB] at kb
  clear hA hB
  simp only [spA, List.map]
  repeat' (first | refine W.seq fun K hK => ?_ | refine W.block ?_ | ((first | refine wR ?_ | refine wD ?_ | refine W.skip ?_ | refine W.exit ?_ | refine W.ret (Post.ret ?_) | refine aP ?_ | refine aF ?_); simp only [go_sem, reduceCtorEq]) | refine wT ?_ | refine wF ?_ | refine wC (fun h => ?_) (fun h => ?_) | refine iK ?_ | refine aI2 ?_ | (refine hK _ ?_; clear hK K) | clear hK K)
  refine AX.gcall [0] rfl rfl (ka) (by simp only [go_sem, reduceCtorEq]) (by simp only [go_sem, reduceCtorEq]) rfl rfl (by simp only [go_sem, Obj.owns]) rfl (by simp only [go_sem, Obj.owns]) rfl rfl ?_
  simp only [go_sem, reduceCtorEq]
  repeat' (first | refine W.seq fun K hK => ?_ | refine W.block ?_ | ((first | refine wR ?_ | refine wD ?_ | refine W.skip ?_ | refine W.exit ?_ | refine W.ret (Post.ret ?_) | refine aP ?_ | refine aF ?_); simp only [go_sem, reduceCtorEq]) | refine wT ?_ | refine wF ?_ | refine wC (fun h => ?_) (fun h => ?_) | refine iK ?_ | refine aI2 ?_ | (refine hK _ ?_; clear hK K) | clear hK K)
  clear ka
  refine W.loopF (T := fun x : Nat × Int => { t := [(0, spsT l), (2, ft (.int .i64 id)), (7, .c (.ptr 0 0)), (8, .c (.ptr 1 0)), (9, ft (.int .i64 (cntZ (freeB l v id) a x.1 : Nat))), (10, ft (.int .i64 x.2))], h := [(0, clN l v), (1, .box 36 ((spA s).map .im))], nx := 2, ex := [], nt := 76 })
    (Inv := fun x => x.1 ≤ (b - a).toNat ∧ x.2 = a + (x.1 : Nat)) (μ := fun x => (b - a).toNat - x.1) (x0 := (0, a)) ?_ ⟨Nat.zero_le _, by simp⟩ ?_
  · refine Fits.fit [(0, 0), (1, 1)] [0, 2, 7, 8, 9, 10] 2 rfl rfl ?_
    simp only [go_sem, spA, List.map, cntZ, List.range_zero, List.countP_nil]
    exact Fits.rfl
  rintro ⟨n, τ⟩ ⟨hn, hτ⟩ KL hKL
  simp only at hn hτ
  simp only [spA, List.map]
  by_cases hlt : τ < b
  · have f1 : decide (τ < b) = true := by simp [hlt]
    have w1 : IntKind.i64.wrap (τ + 1) = τ + 1 := w64 (by omega) (by omega)
    have hcl : cntZ (freeB l v id) a n ≤ n := by
      have := cntZ_le (freeB l v id) (fun _ => true) a n fun _ _ _ => rfl
      rw [cntZ_all (fun _ => true) a n fun _ _ => rfl] at this
      exact this
    have w2 := w64s (cntZ (freeB l v id) a n) (by omega)
    have hcs := cntZ_succ (freeB l v id) a n
    repeat' (first | refine W.seq fun K hK => ?_ | refine W.block ?_ | ((first | refine wR ?_ | refine wD ?_ | refine W.skip ?_ | refine W.exit ?_ | refine W.ret (Post.ret ?_) | refine aP ?_ | refine aF ?_); simp only [go_sem, reduceCtorEq]) | refine wT ?_ | refine wF ?_ | refine wC (fun h => ?_) (fun h => ?_) | refine iK ?_ | refine aI2 ?_ | (refine hK _ ?_; clear hK K) | clear hK K)
    refine AX.gcall [0] rfl rfl (kb) (by simp only [go_sem, reduceCtorEq, f1]) (by simp only [go_sem, reduceCtorEq, f1]) rfl rfl (by simp only [go_sem, Obj.owns]) rfl (by simp only [go_sem, Obj.owns]) rfl rfl ?_
    simp only [go_sem, reduceCtorEq, f1]
    repeat' (first | refine W.seq fun K hK => ?_ | refine W.block ?_ | ((first | refine wR ?_ | refine wD ?_ | refine W.skip ?_ | refine W.exit ?_ | refine W.ret (Post.ret ?_) | refine aP ?_ | refine aF ?_); simp only [go_sem, reduceCtorEq, f1]) | refine wT ?_ | refine wF ?_ | refine wC (fun h => ?_) (fun h => ?_) | refine iK ?_ | refine aI2 ?_ | (refine hK _ ?_; clear hK K) | clear hK K)
    refine W.loopF (T := fun i : Nat => { t := [(0, spsT l), (2, ft (.int .i64 id)), (7, .c (.ptr 0 0)), (8, .c (.ptr 1 0)), (9, ft (.int .i64 (cntZ (freeB l v id) a n : Nat))), (10, ft (.int .i64 τ)), (11, ft (.bool (!((l.take i).any (runS l v id τ))))), (12, ft (.int .i64 (i : Nat)))], h := [(0, clN l v), (1, .box 36 ((spA s).map .im))], nx := 2, ex := [], nt := 76 })
      (Inv := fun i => i ≤ l.length) (μ := fun i => l.length - i) (x0 := 0) ?_ (Nat.zero_le _) ?_
    · refine Fits.fit [(0, 0), (1, 1)] [0, 2, 7, 8, 9, 10, 11, 12] 2 rfl rfl ?_
      simp only [go_sem, spA, List.map, List.take_zero, List.any_nil, Bool.not_false]
      exact Fits.rfl
    intro i hi KJ hKJ
    simp only [spA, List.map]
    by_cases hil : i < l.length
    · obtain ⟨k, hx, hm, hd⟩ := drop_at hil
      have g1 : decide ((i : Int) < l.length) = true := by simp; omega
      have g2 : decide (i < l.length) = true := by simp; omega
      have gw := w64s i (by omega)
      have hst := free_step (v := v) (id := id) (τ := τ) hx
      clear kb hcs hKL
      repeat' (first | refine W.stop (id := 11) ?_ | refine W.seq fun K hK => ?_ | refine W.block ?_ | ((first | refine wR ?_ | refine wD ?_ | refine W.skip ?_ | refine W.exit ?_ | refine W.ret (Post.ret ?_) | refine aP ?_ | refine aF ?_); simp only [go_sem, reduceCtorEq, g1, List.length_map]) | refine wT ?_ | refine wF ?_ | refine wC (fun h => ?_) (fun h => ?_) | refine iK ?_ | refine aI2 ?_ | (refine hK _ ?_; clear hK K) | clear hK K)
      refine Stop.out ?_
      have hKb : ∀ b, runS l v id τ k = b → ∀ s1, Fits { P := Tryz.prog, w0 := w0, ok0 := ok0, may := may, np := 0, pblk := pblk } s1 { t := [(0, spsT l), (2, ft (.int .i64 id)), (7, .c (.ptr 0 0)), (8, .c (.ptr 1 0)), (9, ft (.int .i64 (cntZ (freeB l v id) a n : Nat))), (10, ft (.int .i64 τ)), (11, ft (.bool (!((l.take i).any (runS l v id τ))))), (12, ft (.int .i64 (i : Nat))), (71, ft (.bool b))], h := [(0, clN l v), (1, .box 36 ((spA s).map .im))], nx := 2, ex := [], nt := 76 } → K s1 := by
        intro b hb s1 hf
        refine hK _ (W.fits hf ?_)
        clear hf hK K
        rw [hb] at hst
        simp only [spA, List.map]
        cases b with
        | false =>
          simp only [Bool.false_eq_true, if_false] at hst
          repeat' (first | refine W.seq fun K hK => ?_ | refine W.block ?_ | ((first | refine wR ?_ | refine wD ?_ | refine W.skip ?_ | refine W.exit ?_ | refine W.ret (Post.ret ?_) | refine aP ?_ | refine aF ?_); simp only [go_sem, reduceCtorEq, gw]) | refine wT ?_ | refine wF ?_ | refine wC (fun h => ?_) (fun h => ?_) | refine iK ?_ | refine aI2 ?_ | (refine hK _ ?_; clear hK K) | clear hK K)
          refine hKJ.to (i + 1) (by omega) (by omega) (Fits.fit [(0, 0), (1, 1)] [0, 2, 7, 8, 9, 10, 11, 12] 2 rfl rfl ?_)
          simp only [go_sem, spA, List.map, hst]
          exact Fits.rfl
        | true =>
          simp only [if_true] at hst
          repeat' (first | refine W.seq fun K hK => ?_ | refine W.block ?_ | ((first | refine wR ?_ | refine wD ?_ | refine W.skip ?_ | refine W.exit ?_ | refine W.ret (Post.ret ?_) | refine aP ?_ | refine aF ?_); simp only [go_sem, reduceCtorEq, gw]) | refine wT ?_ | refine wF ?_ | refine wC (fun h => ?_) (fun h => ?_) | refine iK ?_ | refine aI2 ?_ | (refine hK _ ?_; clear hK K) | clear hK K)
          refine hKJ.to (i + 1) (by omega) (by omega) (Fits.fit [(0, 0), (1, 1)] [0, 2, 7, 8, 9, 10, 11, 12] 2 rfl rfl ?_)
          simp only [go_sem, spA, List.map, hst]
          exact Fits.rfl
      clear hK hKJ hst
      obtain ⟨x0, hx0⟩ : ∃ x, x = timM l v (evOf k false) := ⟨_, rfl⟩
      obtain ⟨x1, hx1⟩ : ∃ x, x = timM l v (evOf k true) := ⟨_, rfl⟩
      have hrun : runS l v id τ k = (((k.pa == id && k.kd != 5) && decide (x0 ≤ τ)) && decide (τ < x1)) := by rw [hx0, hx1]; rfl
      have rf := c23 (evOf k false)
      have rt := c23 (evOf k true)
      rw [← hx0] at rf
      rw [← hx1] at rt
      simp only [clO, spT, spA, evT, evA, evOf, List.map] at rf rt
      clear c23
      cases p1 : (k.pa == id) with
      | false =>
        rw [p1] at hrun
        repeat' (first | refine W.seq fun K hK => ?_ | refine W.block ?_ | ((first | refine wR ?_ | refine wD ?_ | refine W.skip ?_ | refine W.exit ?_ | refine W.ret (Post.ret ?_) | refine aP ?_ | refine aF ?_); simp only [go_sem, reduceCtorEq, List.getElem?_map, hx, spA, g2, p1, List.length_map]) | refine wT ?_ | refine wF ?_ | refine wC (fun h => ?_) (fun h => ?_) | refine iK ?_ | refine aI2 ?_ | (refine hK _ ?_; clear hK K) | clear hK K)
        refine hKb false (by rw [hrun]; rfl) _ (Fits.fit [(0, 0), (1, 1)] [0, 2, 7, 8, 9, 10, 11, 12, 71] 2 rfl rfl ?_)
        simp only [go_sem, spA, List.map]
        exact Fits.rfl
      | true =>
      rw [p1] at hrun
      cases p2 : (k.kd != 5) with
      | false =>
        rw [p2] at hrun
        repeat' (first | refine W.seq fun K hK => ?_ | refine W.block ?_ | ((first | refine wR ?_ | refine wD ?_ | refine W.skip ?_ | refine W.exit ?_ | refine W.ret (Post.ret ?_) | refine aP ?_ | refine aF ?_); simp only [go_sem, reduceCtorEq, List.getElem?_map, hx, spA, g2, p1, p2, List.length_map]) | refine wT ?_ | refine wF ?_ | refine wC (fun h => ?_) (fun h => ?_) | refine iK ?_ | refine aI2 ?_ | (refine hK _ ?_; clear hK K) | clear hK K)
        refine hKb false (by rw [hrun]; rfl) _ (Fits.fit [(0, 0), (1, 1)] [0, 2, 7, 8, 9, 10, 11, 12, 71] 2 rfl rfl ?_)
        simp only [go_sem, spA, List.map]
        exact Fits.rfl
      | true =>
      rw [p2] at hrun
      cases p3 : decide (x0 ≤ τ) with
      | false =>
        rw [p3] at hrun
        repeat' (first | refine W.seq fun K hK => ?_ | refine W.block ?_ | ((first | refine wR ?_ | refine wD ?_ | refine W.skip ?_ | refine W.exit ?_ | refine W.ret (Post.ret ?_) | refine aP ?_ | refine aF ?_); simp only [go_sem, reduceCtorEq, List.getElem?_map, hx, spA, g2, p1, p2, List.length_map]) | refine wT ?_ | refine wF ?_ | refine wC (fun h => ?_) (fun h => ?_) | refine iK ?_ | refine aI2 ?_ | (refine hK _ ?_; clear hK K) | clear hK K)
        refine AX.gcall [0] rfl rfl (rf) (by simp only [go_sem, reduceCtorEq, p3]) (by simp only [go_sem, reduceCtorEq, p3]) rfl rfl (by simp only [go_sem, Obj.owns]) rfl (by simp only [go_sem, Obj.owns]) rfl rfl ?_
        simp only [go_sem, reduceCtorEq, p3]
        repeat' (first | refine W.seq fun K hK => ?_ | refine W.block ?_ | ((first | refine wR ?_ | refine wD ?_ | refine W.skip ?_ | refine W.exit ?_ | refine W.ret (Post.ret ?_) | refine aP ?_ | refine aF ?_); simp only [go_sem, reduceCtorEq, List.getElem?_map, hx, spA, g2, p1, p2, p3, List.length_map]) | refine wT ?_ | refine wF ?_ | refine wC (fun h => ?_) (fun h => ?_) | refine iK ?_ | refine aI2 ?_ | (refine hK _ ?_; clear hK K) | clear hK K)
        refine hKb false (by rw [hrun]; rfl) _ (Fits.fit [(0, 0), (1, 1)] [0, 2, 7, 8, 9, 10, 11, 12, 71] 2 rfl rfl ?_)
        simp only [go_sem, spA, List.map]
        exact Fits.rfl
      | true =>
      rw [p3] at hrun
      repeat' (first | refine W.seq fun K hK => ?_ | refine W.block ?_ | ((first | refine wR ?_ | refine wD ?_ | refine W.skip ?_ | refine W.exit ?_ | refine W.ret (Post.ret ?_) | refine aP ?_ | refine aF ?_); simp only [go_sem, reduceCtorEq, List.getElem?_map, hx, spA, g2, p1, p2, List.length_map]) | refine wT ?_ | refine wF ?_ | refine wC (fun h => ?_) (fun h => ?_) | refine iK ?_ | refine aI2 ?_ | (refine hK _ ?_; clear hK K) | clear hK K)
      refine AX.gcall [0] rfl rfl (rf) (by simp only [go_sem, reduceCtorEq, p3, List.getElem?_map, hx, spA]) (by simp only [go_sem, reduceCtorEq, p3, List.getElem?_map, hx, spA]) rfl rfl (by simp only [go_sem, Obj.owns]) rfl (by simp only [go_sem, Obj.owns]) rfl rfl ?_
      simp only [go_sem, reduceCtorEq, p3, List.getElem?_map, hx, spA]
      repeat' (first | refine W.seq fun K hK => ?_ | refine W.block ?_ | ((first | refine wR ?_ | refine wD ?_ | refine W.skip ?_ | refine W.exit ?_ | refine W.ret (Post.ret ?_) | refine aP ?_ | refine aF ?_); simp only [go_sem, reduceCtorEq, List.getElem?_map, hx, spA, g2, p1, p2, p3, List.length_map]) | refine wT ?_ | refine wF ?_ | refine wC (fun h => ?_) (fun h => ?_) | refine iK ?_ | refine aI2 ?_ | (refine hK _ ?_; clear hK K) | clear hK K)
      refine AX.gcall [0] rfl rfl (rt) (by simp only [go_sem, reduceCtorEq]) (by simp only [go_sem, reduceCtorEq]) rfl rfl (by simp only [go_sem, Obj.owns]) rfl (by simp only [go_sem, Obj.owns]) rfl rfl ?_
      simp only [go_sem, reduceCtorEq]
      repeat' (first | refine W.seq fun K hK => ?_ | refine W.block ?_ | ((first | refine wR ?_ | refine wD ?_ | refine W.skip ?_ | refine W.exit ?_ | refine W.ret (Post.ret ?_) | refine aP ?_ | refine aF ?_); simp only [go_sem, reduceCtorEq]) | refine wT ?_ | refine wF ?_ | refine wC (fun h => ?_) (fun h => ?_) | refine iK ?_ | refine aI2 ?_ | (refine hK _ ?_; clear hK K) | clear hK K)
      refine hKb (decide (τ < x1)) (by rw [hrun]; rfl) _ (Fits.fit [(0, 0), (1, 1)] [0, 2, 7, 8, 9, 10, 11, 12, 71] 2 rfl rfl ?_)
      simp only [go_sem, spA, List.map]
      exact Fits.rfl
    · obtain rfl : i = l.length := by omega
      have g1 : decide ((l.length : Int) < l.length) = false := by simp
      rw [List.take_length]
      have hfr : freeB l v id τ = !(l.any (runS l v id τ)) := rfl
      rw [← hfr]
      rw [← hτ] at hcs
      clear hKJ kb
      cases hv : freeB l v id τ with
      | false =>
        rw [hv] at hcs
        simp only [Bool.false_eq_true, if_false, Nat.add_zero] at hcs
        repeat' (first | refine W.seq fun K hK => ?_ | refine W.block ?_ | ((first | refine wR ?_ | refine wD ?_ | refine W.skip ?_ | refine W.exit ?_ | refine W.ret (Post.ret ?_) | refine aP ?_ | refine aF ?_); simp only [go_sem, reduceCtorEq, g1, w1, List.length_map]) | refine wT ?_ | refine wF ?_ | refine wC (fun h => ?_) (fun h => ?_) | refine iK ?_ | refine aI2 ?_ | (refine hK _ ?_; clear hK K) | clear hK K)
        refine hKL.to (n + 1, τ + 1) ⟨by simp only; omega, by simp only; omega⟩ (by simp only; omega) (Fits.fit [(0, 0), (1, 1)] [0, 2, 7, 8, 9, 10] 2 rfl rfl ?_)
        simp only [go_sem, spA, List.map, hcs]
        exact Fits.rfl
      | true =>
        rw [hv] at hcs
        simp only [if_true] at hcs
        repeat' (first | refine W.seq fun K hK => ?_ | refine W.block ?_ | ((first | refine wR ?_ | refine wD ?_ | refine W.skip ?_ | refine W.exit ?_ | refine W.ret (Post.ret ?_) | refine aP ?_ | refine aF ?_); simp only [go_sem, reduceCtorEq, g1, w1, w2, List.length_map]) | refine wT ?_ | refine wF ?_ | refine wC (fun h => ?_) (fun h => ?_) | refine iK ?_ | refine aI2 ?_ | (refine hK _ ?_; clear hK K) | clear hK K)
        refine hKL.to (n + 1, τ + 1) ⟨by simp only; omega, by simp only; omega⟩ (by simp only; omega) (Fits.fit [(0, 0), (1, 1)] [0, 2, 7, 8, 9, 10] 2 rfl rfl ?_)
        simp only [go_sem, spA, List.map, hcs]
        exact Fits.rfl
  · obtain rfl : n = (b - a).toNat := by omega
    have f1 : decide (τ < b) = false := by simp; omega
    have hfin : cntZ (freeB l v id) a (b - a).toNat = cntI2 (freeB l v id) a b := rfl
    clear hKL
    repeat' (first | refine W.seq fun K hK => ?_ | refine W.block ?_ | ((first | refine wR ?_ | refine wD ?_ | refine W.skip ?_ | refine W.exit ?_ | refine W.ret (Post.ret ?_) | refine aP ?_ | refine aF ?_); simp only [go_sem, reduceCtorEq]) | refine wT ?_ | refine wF ?_ | refine wC (fun h => ?_) (fun h => ?_) | refine iK ?_ | refine aI2 ?_ | (refine hK _ ?_; clear hK K) | clear hK K)
    refine AX.gcall [0] rfl rfl (kb) (by simp only [go_sem, reduceCtorEq, f1]) (by simp only [go_sem, reduceCtorEq, f1]) rfl rfl (by simp only [go_sem, Obj.owns]) rfl (by simp only [go_sem, Obj.owns]) rfl rfl ?_
    simp only [go_sem, reduceCtorEq, f1]
    repeat' (first | refine W.seq fun K hK => ?_ | refine W.block ?_ | ((first | refine wR ?_ | refine wD ?_ | refine W.skip ?_ | refine W.exit ?_ | refine W.ret (Post.ret ?_) | refine aP ?_ | refine aF ?_); simp only [go_sem, reduceCtorEq, f1, hfin]) | refine wT ?_ | refine wF ?_ | refine wC (fun h => ?_) (fun h => ?_) | refine iK ?_ | refine aI2 ?_ | (refine hK _ ?_; clear hK K) | clear hK K)
end Go.Proofs.YtaaflhmfhnfjhaaGreat
namespace Go.Proofs.YtaaflhmfhnfjhaaGreat
open Go.RowKit Go.Exe
/-! ### CriticalExclusive -/
def onP (p : List Sg) (z : Spn) : Bool := p.any fun g => decide (g.sp.2 = z.id)
structure ExIs (l L : List Spn) (v : List Of) (p : List Sg) : Prop where
  lst : exF p (p.map (lenM L v)) = (L.filter (onP p)).map fun z => (z.id, wS (timM L v) z.id p 0)
  on : ∀ z ∈ L, onP p z = true → wS (timM L v) z.id p 0 ≠ 0
  off : ∀ z ∈ L, onP p z = false → wS (timM L v) z.id p 0 = 0
  self : ∀ z ∈ L, onP p z = true → wS (timM L v) z.id p 0 ≤ (cntI2 (freeB l v z.id) (timM L v (evOf z false)) (timM L v (evOf z true)) : Nat)
  ids : ∀ g ∈ p, ∃ x ∈ L, g.sp.2 = x.id
theorem Trn.ex {l L : List Spn} {tr : Int} (h : Trn l L tr) {v : List Of} {r : Spn} (hr : r ∈ L) {p : List Sg} (hp : PthIs L v r p) (hsm : ∀ x ∈ evsL L, -2000 < timM L v x ∧ timM L v x < 4000) (hse : ∀ z ∈ L, timM L v (evOf z false) ≤ timM L v (evOf z true)) : ExIs l L v p := by
  obtain ⟨lo, cur, hlo, hcur, ht⟩ : ∃ lo cur, lo ∈ evsL L ∧ cur ∈ evsL L ∧ TilP (timM L v) p lo cur := by
    by_cases hlt : timM L v (evOf r false) < timM L v (evOf r true)
    · exact ⟨_, _, evs_mem hr _, evs_mem hr _, hp.til hlt⟩
    · rw [hp.nil hlt]
      exact ⟨evOf r false, evOf r false, evs_mem hr _, evs_mem hr _, rfl⟩
  have b1 := hsm lo hlo
  have b2 := hsm cur hcur
  have hb : ∀ g ∈ p, (-10000 < timM L v g.fr ∧ timM L v g.fr < 10000) ∧ -10000 < timM L v g.to ∧ timM L v g.to < 10000 := fun g hg => by
    have h1 := hsm _ (hp.ev g hg).1
    have h2 := hsm _ (hp.ev g hg).2
    omega
  have hW := fun id => wS_is (id := id) (n := 0) ht hb (Int.le_refl _) (by omega)
  have hpid : ∀ g ∈ p, ∃ x ∈ L, g.sp.2 = x.id := fun g hg => by
    obtain ⟨x, hx⟩ := hp.seg g hg
    exact ⟨x, hx.mem, by rw [hx.sp]⟩
  refine ⟨?_, fun z hz ho => ?_, fun z hz ho => ?_, fun z hz ho => ?_, hpid⟩
  · rw [exF_is h.srt v hpid]
    show (L.filter (onP p)).map _ = _
    refine List.map_congr_left fun z _ => ?_
    rw [(hW z.id).1, (hW z.id).2]
  · rw [(hW z.id).1, Int.zero_add]
    exact (rS_pos ht).2 ho
  · rw [(hW z.id).1, Int.zero_add]
    refine Decidable.byContradiction fun hn => ?_
    have := (rS_pos ht).1 hn
    unfold onP at ho
    rw [this] at ho
    cases ho
  · rw [(hW z.id).1, Int.zero_add]
    obtain ⟨P, hP⟩ : ∃ P : Int → Bool, P = fun τ => decide (timM L v (evOf z false) ≤ τ) && decide (τ < timM L v (evOf z true)) && freeB l v z.id τ := ⟨_, rfl⟩
    have h1 : rS (timM L v) z.id p ≤ cntI2 P (timM L v lo) (timM L v cur) := rS_cnt ht fun g hg hgi τ h1 h2 => by
      obtain ⟨x, hx⟩ := hp.seg g hg
      have hxz : x = z := id_eq h.nd hx.mem hz (by rw [← hgi, hx.sp])
      subst hxz
      have h3 := hx.fr
      have h4 := hx.to
      have hfree : freeB l v x.id τ = true := by
        unfold freeB
        rw [Bool.not_eq_true', List.any_eq_false]
        intro k hk hrun
        have hkL := h.perm.mem_iff.2 hk
        unfold runS at hrun
        rw [h.timLl v (evs_mem hkL _), h.timLl v (evs_mem hkL _)] at hrun
        simp only [Bool.and_eq_true, decide_eq_true_eq, beq_iff_eq, bne_iff_ne] at hrun
        obtain ⟨⟨⟨k1, k2⟩, k3⟩, k4⟩ := hrun
        refine hx.free k (List.mem_filter.2 ⟨hkL, by simp [k1, k2]⟩) ⟨?_, ?_, ?_⟩
        · omega
        · omega
        · omega
      rw [hP]
      simp only [hfree, Bool.and_true, Bool.and_eq_true, decide_eq_true_eq]
      omega
    have h2 : cntI2 P (timM L v lo) (timM L v cur) ≤ cntI2 (freeB l v z.id) (timM L v (evOf z false)) (timM L v (evOf z true)) := cntI2_in ht.le (hse z hz) fun τ hτ => by
      rw [hP] at hτ
      simp only [Bool.and_eq_true, decide_eq_true_eq] at hτ
      exact hτ
    omega
theorem filt_at {α : Type} (F : α → Bool) : ∀ {l : List α} {i : Nat} {x : α}, l[i]? = some x → F x = true → (l.filter F)[((l.take i).filter F).length]? = some x
  | [], i, x, h, _ => by simp at h
  | y :: l, 0, x, h, hF => by
    simp only [List.getElem?_cons_zero, Option.some.injEq] at h
    subst h
    rw [List.take_zero, List.filter_cons_of_pos hF]; rfl
  | y :: l, i + 1, x, h, hF => by
    rw [List.getElem?_cons_succ] at h
    have ih := filt_at F h hF
    rw [List.take_succ_cons]
    by_cases hy : F y = true
    · rw [List.filter_cons_of_pos hy, List.filter_cons_of_pos hy, List.length_cons, List.getElem?_cons_succ]; exact ih
    · rw [List.filter_cons_of_neg hy, List.filter_cons_of_neg hy]; exact ih
theorem filt_step {α : Type} (F : α → Bool) {l : List α} {i : Nat} {x : α} (h : l[i]? = some x) : ((l.take (i + 1)).filter F).length = ((l.take i).filter F).length + if F x then 1 else 0 := by
  rw [List.take_add_one, h, Option.toList_some, List.filter_append, List.length_append]
  cases hF : F x <;> simp [hF]
theorem wS_step {tm : Ev → Int} {id : Int} {p : List Sg} {j : Nat} {g : Sg} (h : p[j]? = some g) : wS tm id (p.take (j + 1)) 0 = if g.sp.2 = id then IntKind.i64.wrap (IntKind.i64.wrap (wS tm id (p.take j) 0 + tm g.to) - tm g.fr) else wS tm id (p.take j) 0 := by
  unfold wS
  rw [List.take_add_one, h, Option.toList_some, List.foldl_append]
  rfl
attribute [local irreducible] W AX Run RunD AStep AOp AOpX AStB AStH AStG Fits PCall GCall PostG Post Stop
theorem exclusive_c (c53 : SortC Tryz.prog 53 14) (c71 : SortI Tryz.prog 71) (g85 : GrowC Tryz.prog 85 3 1 8) (s : Sto) (hsB : s.okB) (u : Nat) (hu : u < 256) : PCall Tryz.prog 8 [stoT s, ft (.int .u8 (u : Nat))] (ft (.bool true)) := by
  have c11 := known_c c53 c71 g85
  rcases turned_all s hsB with c12 | ⟨t, hs, ht, c12⟩
  · have c12 := c12 0 (by omega)
    clear c53 c71 g85 hsB
    simp only [stoT, stoA, turnR, List.map, Option.map_none, Option.getD_none, Option.isSome_none] at c12 ⊢
    refine PCall.intro (nt := 137) (rs := [.tmp 4]) Tryz.func8 rfl ⟨by kernel_rfl, by kernel_rfl, by kernel_rfl⟩ (by simp) ?_
    rintro ⟨P, w0, ok0, may, np, pblk⟩ rfl rfl
    repeat' (first | refine W.seq fun K hK => ?_ | refine W.block ?_ | ((first | refine wR ?_ | refine wD ?_ | refine W.skip ?_ | refine W.exit ?_ | refine W.ret (Post.ret ?_) | refine aP ?_ | refine aF ?_ | refine aQ ?_); simp only [go_sem, reduceCtorEq]) | refine wT ?_ | refine wF ?_ | refine wC (fun h => ?_) (fun h => ?_) | refine iK ?_ | refine aI2 ?_ | (refine hK _ ?_; clear hK K) | clear hK K)
  · have hT := story_trn hs ht 0
    have hc := story_chk ht 0
    have hvI := offT_I s
    have hvN := offT_nd s
    have h8 := (hs.1 t (List.mem_of_getElem? (turnT_is ht).2.1)).2.2.2
    have k12 := c12 0 (by omega)
    have hl0 : 0 < (rotL (trcS s 0 t) 0).length := by
      rw [← (rotL_perm _ 0).length_eq, trcS_len]; exact (turnT_is ht).2.2
    have hsm : ∀ x ∈ evsL (trcS s 0 t), -2000 < timM (trcS s 0 t) (offT s 4) x ∧ timM (trcS s 0 t) (offT s 4) x < 4000 := fun x hx => tim_small h8 hx
    have hse : ∀ z ∈ trcS s 0 t, timM (trcS s 0 t) (offT s 4) (evOf z false) ≤ timM (trcS s 0 t) (offT s 4) (evOf z true) := fun z hz => by
      obtain ⟨k, _, _, hk, h1⟩ := tim_is h8 hz false
      obtain ⟨k', _, _, hk', h2⟩ := tim_is h8 hz true
      have hkk : k' = k := by rw [hk] at hk'; omega
      subst hkk
      rw [h1, h2]
      have := story_st_en hz
      show z.st - _ ≤ z.en - _
      omega
    clear c12 hsB
    generalize rotL (trcS s 0 t) 0 = l at *
    generalize trcS s 0 t = L at *
    generalize offT s 4 = v at *
    have hk := Nat.mod_lt u hl0
    obtain ⟨r, hr, hrm, _⟩ := drop_at hk
    have hrL := hT.perm.mem_iff.2 hrm
    obtain ⟨p, hP, hp⟩ := hT.pth v hrL
    have hex := hT.ex hrL hp hsm hse
    have c13 := hT.c13 v c53 c71 g85 hvI hvN hc r.id
    have c14 := hT.c14 v r.id
    rw [hP] at c13 c14
    have c27 := excl_c c71 l v r.id p (p.map (lenM L v)) (by simp) (fun g hg => by
      obtain ⟨x, hx, e⟩ := hex.ids g hg
      rw [e]; exact (hT.int x hx).2.1) c13 (hT.c24 hc hvI hp.ev)
    rw [hex.lst] at c27
    have c28 := sorted28_c l
    rw [sortM_srt hT.ndl, hT.srtId] at c28
    have c23 := fun x => time23_c l v [] 0 x
    have c29 : ∀ z ∈ L, PCall Tryz.prog 29 [spsT l, ofsT v, ft (.int .i64 z.id)] (ft (.int .i64 (cntI2 (freeB l v z.id) (timM L v (evOf z false)) (timM L v (evOf z true)) : Nat))) := fun z hz => by
      have hzl := hT.perm.mem_iff.1 hz
      cases hj : l.findIdx? (fun x => x.id == z.id) with
      | none =>
        rw [List.findIdx?_eq_none_iff] at hj
        have := hj z hzl
        simp at this
      | some j =>
        obtain ⟨h4, h5, _⟩ := List.findIdx?_eq_some_iff_getElem.1 hj
        have he := id_eq hT.ndl (List.getElem_mem h4) hzl (by simpa using h5)
        have hk2 := List.getElem?_eq_getElem h4
        rw [he] at hk2
        have b1 := hsm _ (evs_mem hz false)
        have b2 := hsm _ (evs_mem hz true)
        have c := self29_c l v z.id j hj z hk2 (by rw [hT.timLl v (evs_mem hz _)]; omega) (by rw [hT.timLl v (evs_mem hz _)]; omega)
        rw [hT.timLl v (evs_mem hz _), hT.timLl v (evs_mem hz _)] at c
        exact c
    have htl : ∀ g ∈ p, timM l v g.to = timM L v g.to ∧ timM l v g.fr = timM L v g.fr := fun g hg => ⟨hT.timLl v (hp.ev g hg).2, hT.timLl v (hp.ev g hg).1⟩
    have hll := hT.lenl
    have hLl := hT.len
    have q1 := w64n u (by omega)
    have q2 := tm u l.length
    have q3 : ((l.length : Int) == 0) = false := by rw [beq_eq_false_iff_ne]; omega
    have q4 : decide (u % l.length < l.length) = true := by simp [hk]
    have n0 : ((0 : Int) != 0) = false := by decide
    have hq : 0 ≤ ((u % l.length : Nat) : Int) := by omega
    have hon := hex.on
    have hoff := hex.off
    have hslf := hex.self
    clear c53 c71 g85 hc hvI hvN hse hP hT hex hp c13 hsm
    simp only [stoT, stoA, turnR, List.map, Option.map_some, Option.getD_some, Option.isSome_some] at k12 ⊢
    simp only [pthT, exT] at c14 c27
    refine PCall.intro (nt := 137) (rs := [.tmp 4]) Tryz.func8 rfl ⟨by kernel_rfl, by kernel_rfl, by kernel_rfl⟩ (by simp) ?_
    rintro ⟨P, w0, ok0, may, np, pblk⟩ rfl rfl
    repeat' (first | refine W.stop (id := 12) ?_ | refine W.seq fun K hK => ?_ | refine W.block ?_ | ((first | refine wR ?_ | refine wD ?_ | refine W.skip ?_ | refine W.exit ?_ | refine W.ret (Post.ret ?_) | refine aP ?_ | refine aF ?_ | refine aQ ?_); simp only [go_sem, reduceCtorEq, q1, q2, q3, q4, n0, hr, spA, List.getElem?_map, List.length_map]) | refine wT ?_ | refine wF ?_ | refine wC (fun h => ?_) (fun h => ?_) | refine iK ?_ | refine aI2 ?_ | (refine hK _ ?_; clear hK K) | clear hK K)
    refine Stop.out ?_
    refine W.fits (Fits.adoptB 49 58 _ 2 900 193 rfl rfl rfl rfl tE193 rfl (Fits.toNB 49 rfl (Fits.fold 49 0 2 900 (.orow 193 []) rfl rfl rfl (by simp [Obj.slot, refCell]) (by decide) Fits.rfl))) ?_
    simp only [go_sem, List.set_cons_zero, List.set_cons_succ]
    obtain ⟨X, hX⟩ : ∃ X, X = (L.filter (onP p)).map fun z => (z.id, wS (timM L v) z.id p 0) := ⟨_, rfl⟩
    rw [← hX]
    clear c11 k12 c14 c27
    repeat' (first | refine W.seq fun K hK => ?_ | refine W.block ?_ | ((first | refine wR ?_ | refine wD ?_ | refine W.skip ?_ | refine W.exit ?_ | refine W.ret (Post.ret ?_) | refine aP ?_ | refine aF ?_ | refine aQ ?_); simp only [go_sem, reduceCtorEq]) | refine wT ?_ | refine wF ?_ | refine wC (fun h => ?_) (fun h => ?_) | refine iK ?_ | refine aI2 ?_ | (refine hK _ ?_; clear hK K) | clear hK K)
    clear c28
    refine W.loopF (T := fun i : Nat => { t := [(5, spsT l), (6, ofsT v), (9, .c (.im (.sl 75 (X.map ofA)))), (11, sgsT p), (13, .c (.ptr 0 0)), (14, spsT L), (15, ft (.int .i64 (((L.take i).filter (onP p)).length : Nat))), (16, ft (.int .i64 (i : Nat)))], h := [(0, clN l v)], nx := 1, ex := [], nt := 137 })
      (Inv := fun i => i ≤ L.length) (μ := fun i => L.length - i) (x0 := 0) ?_ (Nat.zero_le _) ?_
    · refine Fits.fit [(49, 0)] [5, 6, 9, 11, 13, 14, 15, 16] 1 rfl rfl ?_
      simp only [go_sem, List.take_zero, List.filter_nil, List.length_nil]
      exact Fits.rfl
    intro i hi KL hKL
    refine W.lenB 11 rfl tE66 fun hp0 hp1 => ?_
    rw [List.length_map] at hp1
    by_cases hlt : i < L.length
    · obtain ⟨z, hz, hzm, _⟩ := drop_at hlt
      have e1 : decide ((i : Int) < L.length) = true := by simp; omega
      have e2 : decide (i < L.length) = true := by simp; omega
      have hw := w64s i (by omega)
      have hfs := filt_step (onP p) hz
      have hfa := fun h => filt_at (onP p) hz h
      have z29 := c29 z hzm
      have z1 := hon z hzm
      have z2 := hoff z hzm
      have z3 := hslf z hzm
      have hkl : ((L.take i).filter (onP p)).length ≤ L.length := Nat.le_trans (List.length_filter_le _ _) (by rw [List.length_take]; omega)
      have hXk : ∀ k, (L.filter (onP p))[k]? = some z → X[k]? = some (z.id, wS (timM L v) z.id p 0) := fun k h => by rw [hX, List.getElem?_map, h]; rfl
      clear hon hoff hslf c29 hX
      generalize hk0 : ((L.take i).filter (onP p)).length = k0 at *
      repeat' (first | refine W.seq fun K hK => ?_ | refine W.block ?_ | ((first | refine wR ?_ | refine wD ?_ | refine W.skip ?_ | refine W.exit ?_ | refine W.ret (Post.ret ?_) | refine aP ?_ | refine aF ?_ | refine aQ ?_); simp only [go_sem, reduceCtorEq, e1, List.length_map]) | refine wT ?_ | refine wF ?_ | refine wC (fun h => ?_) (fun h => ?_) | refine iK ?_ | refine aI2 ?_ | (refine hK _ ?_; clear hK K) | clear hK K)
      refine W.loopF (T := fun j : Nat => { t := [(5, spsT l), (6, ofsT v), (9, .c (.im (.sl 75 (X.map ofA)))), (11, sgsT p), (13, .c (.ptr 0 0)), (14, spsT L), (15, ft (.int .i64 (k0 : Nat))), (16, ft (.int .i64 (i : Nat))), (17, ft (.int .i64 (wS (timM L v) z.id (p.take j) 0))), (18, ft (.int .i64 (j : Nat)))], h := [(0, clN l v)], nx := 1, ex := [], nt := 137 })
        (Inv := fun j => j ≤ p.length) (μ := fun j => p.length - j) (x0 := 0) ?_ (Nat.zero_le _) ?_
      · refine Fits.fit [(0, 0)] [5, 6, 9, 11, 13, 14, 15, 16, 17, 18] 1 rfl rfl ?_
        simp only [go_sem, List.take_zero]
        exact Fits.rfl
      intro j hj KJ hKJ
      by_cases hjl : j < p.length
      · obtain ⟨g, hx, hgm, _⟩ := drop_at hjl
        have g1 : decide ((j : Int) < p.length) = true := by simp; omega
        have g2 : decide (j < p.length) = true := by simp; omega
        have gw := w64s j (by omega)
        have hst := wS_step (tm := timM L v) (id := z.id) hx
        obtain ⟨t1, t2⟩ := htl g hgm
        have kf := c23 g.fr
        have kt := c23 g.to
        rw [t2] at kf
        rw [t1] at kt
        simp only [clO, evT, evA, List.map] at kf kt
        clear z29 z1 z2 z3 hKL htl c23
        by_cases he : g.sp.2 = z.id
        · have f1 : (g.sp.2 == z.id) = true := by rw [beq_iff_eq]; exact he
          rw [if_pos he] at hst
          repeat' (first | refine W.seq fun K hK => ?_ | refine W.block ?_ | ((first | refine wR ?_ | refine wD ?_ | refine W.skip ?_ | refine W.exit ?_ | refine W.ret (Post.ret ?_) | refine aP ?_ | refine aF ?_ | refine aQ ?_); simp only [go_sem, reduceCtorEq, g1, g2, e2, f1, gw, hx, hz, sgA, spA, List.getElem?_map, List.length_map]) | refine wT ?_ | refine wF ?_ | refine wC (fun h => ?_) (fun h => ?_) | refine iK ?_ | refine aI2 ?_ | (refine hK _ ?_; clear hK K) | clear hK K)
          refine AX.gcall [0] rfl rfl (kt) (by simp only [go_sem, reduceCtorEq, hx, sgA, List.getElem?_map, Option.map_some]) (by simp only [go_sem, reduceCtorEq, hx, sgA, List.getElem?_map, Option.map_some]) rfl rfl (by simp only [go_sem, Obj.owns]) rfl (by simp only [go_sem, Obj.owns]) rfl rfl ?_
          simp only [go_sem, reduceCtorEq, hx, sgA, List.getElem?_map, Option.map_some]
          repeat' (first | refine W.seq fun K hK => ?_ | refine W.block ?_ | ((first | refine wR ?_ | refine wD ?_ | refine W.skip ?_ | refine W.exit ?_ | refine W.ret (Post.ret ?_) | refine aP ?_ | refine aF ?_ | refine aQ ?_); simp only [go_sem, reduceCtorEq, g1, g2, e2, f1, gw, hx, hz, sgA, spA, List.getElem?_map, List.length_map]) | refine wT ?_ | refine wF ?_ | refine wC (fun h => ?_) (fun h => ?_) | refine iK ?_ | refine aI2 ?_ | (refine hK _ ?_; clear hK K) | clear hK K)
          refine AX.gcall [0] rfl rfl (kf) (by simp only [go_sem, reduceCtorEq]) (by simp only [go_sem, reduceCtorEq]) rfl rfl (by simp only [go_sem, Obj.owns]) rfl (by simp only [go_sem, Obj.owns]) rfl rfl ?_
          simp only [go_sem, reduceCtorEq]
          repeat' (first | refine W.seq fun K hK => ?_ | refine W.block ?_ | ((first | refine wR ?_ | refine wD ?_ | refine W.skip ?_ | refine W.exit ?_ | refine W.ret (Post.ret ?_) | refine aP ?_ | refine aF ?_ | refine aQ ?_); simp only [go_sem, reduceCtorEq, gw]) | refine wT ?_ | refine wF ?_ | refine wC (fun h => ?_) (fun h => ?_) | refine iK ?_ | refine aI2 ?_ | (refine hK _ ?_; clear hK K) | clear hK K)
          refine hKJ.to (j + 1) (by omega) (by omega) (Fits.fit [(0, 0)] [5, 6, 9, 11, 13, 14, 15, 16, 17, 18] 1 rfl rfl ?_)
          simp only [go_sem, hst]
          exact Fits.rfl
        · have f1 : (g.sp.2 == z.id) = false := by rw [beq_eq_false_iff_ne]; exact he
          rw [if_neg he] at hst
          repeat' (first | refine W.seq fun K hK => ?_ | refine W.block ?_ | ((first | refine wR ?_ | refine wD ?_ | refine W.skip ?_ | refine W.exit ?_ | refine W.ret (Post.ret ?_) | refine aP ?_ | refine aF ?_ | refine aQ ?_); simp only [go_sem, reduceCtorEq, g1, g2, e2, f1, gw, hx, hz, sgA, spA, List.getElem?_map, List.length_map]) | refine wT ?_ | refine wF ?_ | refine wC (fun h => ?_) (fun h => ?_) | refine iK ?_ | refine aI2 ?_ | (refine hK _ ?_; clear hK K) | clear hK K)
          refine hKJ.to (j + 1) (by omega) (by omega) (Fits.fit [(0, 0)] [5, 6, 9, 11, 13, 14, 15, 16, 17, 18] 1 rfl rfl ?_)
          simp only [go_sem, hst]
          exact Fits.rfl
      · obtain rfl : j = p.length := by omega
        have g1 : decide ((p.length : Int) < p.length) = false := by simp
        rw [List.take_length]
        clear hKJ c23 htl
        generalize wS (timM L v) z.id p 0 = val at *
        cases hF : onP p z with
        | false =>
          have f1 : (val == 0) = true := by rw [beq_iff_eq]; exact z2 hF
          rw [hF] at hfs
          simp only [Bool.false_eq_true, if_false, Nat.add_zero] at hfs
          repeat' (first | refine W.seq fun K hK => ?_ | refine W.block ?_ | ((first | refine wR ?_ | refine wD ?_ | refine W.skip ?_ | refine W.exit ?_ | refine W.ret (Post.ret ?_) | refine aP ?_ | refine aF ?_ | refine aQ ?_); simp only [go_sem, reduceCtorEq, g1, f1, hw, List.length_map]) | refine wT ?_ | refine wF ?_ | refine wC (fun h => ?_) (fun h => ?_) | refine iK ?_ | refine aI2 ?_ | (refine hK _ ?_; clear hK K) | clear hK K)
          refine hKL.to (i + 1) (by omega) (by omega) (Fits.fit [(0, 0)] [5, 6, 9, 11, 13, 14, 15, 16] 1 rfl rfl ?_)
          simp only [go_sem, hfs]
          exact Fits.rfl
        | true =>
          have f1 : (val == 0) = false := by rw [beq_eq_false_iff_ne]; exact z1 hF
          rw [hF] at hfs
          simp only [if_true] at hfs
          have hxk := hXk k0 (hfa hF)
          have hkX := (List.getElem?_eq_some_iff.1 hxk).1
          have f2 : decide ((k0 : Int) ≥ X.length) = false := by simp; omega
          have f3 : decide (k0 < X.length) = true := by simp [hkX]
          have f4 : decide (val > ((cntI2 (freeB l v z.id) (timM L v (evOf z false)) (timM L v (evOf z true)) : Nat) : Int)) = false := by simp; exact z3 hF
          have w1 := w64s k0 (by omega)
          have hG := eqG75
          have hE : ∀ w, (Op.equal 75 (.agg #[.int .i64 z.id, .int .i64 val]) (.agg #[.int .i64 z.id, .int .i64 val])).run Tryz.prog w = .ok true w := fun w => by rw [eqSh]; simp
          clear hXk hfa
          repeat' (first | refine W.seq fun K hK => ?_ | refine W.block ?_ | ((first | refine wR ?_ | refine wD ?_ | refine W.skip ?_ | refine W.exit ?_ | refine W.ret (Post.ret ?_) | refine aP ?_ | refine aF ?_ | refine aQ ?_); simp only [go_sem, reduceCtorEq, g1, f1, f2, f3, f4, e2, hxk, hz, ofA, spA, hw, w1, List.getElem?_map, List.length_map, Option.map_some]) | refine wT ?_ | refine wF ?_ | refine wC (fun h => ?_) (fun h => ?_) | refine iK ?_ | refine aI2 ?_ | (refine hK _ ?_; clear hK K) | clear hK K)
          refine hKL.to (i + 1) (by omega) (by omega) (Fits.fit [(0, 0)] [5, 6, 9, 11, 13, 14, 15, 16] 1 rfl rfl ?_)
          simp only [go_sem, hfs]
          exact Fits.rfl
    · obtain rfl : i = L.length := by omega
      have e1 : decide ((L.length : Int) < L.length) = false := by simp
      rw [List.take_length]
      have hXl : X.length = (L.filter (onP p)).length := by rw [hX, List.length_map]
      have e3 : (((L.filter (onP p)).length : Int) == (X.length : Int)) = true := by rw [beq_iff_eq, hXl]
      clear hKL c23 c29
      repeat' (first | refine W.seq fun K hK => ?_ | refine W.block ?_ | ((first | refine wR ?_ | refine wD ?_ | refine W.skip ?_ | refine W.exit ?_ | refine W.ret (Post.ret ?_) | refine aP ?_ | refine aF ?_ | refine aQ ?_); simp only [go_sem, reduceCtorEq, e1, e3, List.length_map]) | refine wT ?_ | refine wF ?_ | refine wC (fun h => ?_) (fun h => ?_) | refine iK ?_ | refine aI2 ?_ | (refine hK _ ?_; clear hK K) | clear hK K)
end Go.Proofs.YtaaflhmfhnfjhaaGreat
namespace Go.Proofs.YtaaflhmfhnfjhaaGreat
open Go.ChangeShapes Go.WideShapes Go.ChangeAt Go.RowKit Go.Exe

def exclusiveC : Prop := ∀ (x0 : List AV) (x1 : AV), Typ Tryz.prog 6 27 x0 → Typ Tryz.prog 6 5 [x1] → PCall Tryz.prog 8 [.g (x0.map .im), .c (.im x1)] (ft (.bool true))
theorem exclusive_lifted (hc : exclusiveC) (os : Os) (started : os.Started) (H : Type) (enc : TypeId × Value → H) :
    ReturnsInHanded {} Tryz.checked os 8 .any (Rows.criticalExclusiveSpec.pre6 enc Tryz.prog Tryz.f8 Rows.criticalExclusiveRow.domain false) (Rows.criticalExclusiveSpec.post enc Tryz.prog Tryz.f8 false Rows.criticalExclusiveRow.fresh Rows.criticalExclusiveRow.handsOn Rows.criticalExclusiveRow.again) := by
  refine returnsInHanded_of_change_sized (C := Tryz.checked) Tryz.own started (by kernel_rfl) Tryz.func8
    (ChangeSpec.witness6 (enc := enc) (C := Tryz.checked) false ⟨#[], #[.agg #[.slice none 0 0, .int .i8 0, .int .i8 0, .int .i8 0, .int .i8 0, .slice none 0 0, .int .u8 0], .int .u8 0], []⟩ 8 (by kernel_rfl) (by kernel_rfl) (by kernel_rfl) (by kernel_rfl)) ?_
  intro W base args ds gs before hval0 hW _ hsz0 _
  have hsz : (DataW.weightsEach Tryz.prog (Tryz.f8.params.toList ++ Rows.criticalExclusiveSpec.plain.varTypes Tryz.prog) (ds ++ gs)).all (· ≤ reachBytes) = true := hsz0
  clear hsz0
  have hval : ∀ (j : Nat) t v, Tryz.f8.params[j]? = some t → args[j]? = some v → Value.okWide Tryz.prog W .any base t v := hval0
  have hW' := hW
  obtain ⟨p, q, hA0, hV, rfl, hfz, hnd⟩ := hW
  have hA : DataW.TrodAll enc Tryz.prog W 0 (fun _ => true) true Tryz.f8.params.toList args.toList ds p := hA0
  rw [Tryz.params8] at hA hval hsz
  obtain ⟨v0, v1, d0, d1, p0, p1, rfl, rfl, rfl, h0, h1⟩ := trodAll_two hA
  obtain ⟨rfl, rfl⟩ := trodVars_none hV
  clear hA0 hval0
  simp only [List.append_nil] at hW'
  obtain ⟨x0, r0, y0⟩ := arg_g (j := 0) 6 (by kernel_rfl) (by obtain ⟨cs, hcs, _⟩ := okWide_struct rfl (hval 0 27 v0 rfl rfl); exact ⟨cs, hcs⟩) h0 hsz rfl rfl
  obtain ⟨x1, r1, y1⟩ := arg_c (j := 1) 6 (by kernel_rfl) (by obtain ⟨z, hz⟩ := okWide_int rfl (hval 1 5 v1 rfl rfl); rw [hz]; rfl) h1 hsz rfl rfl
  have hlt : ∀ x ∈ p0 ++ p1, x.block < W.heap.size := fun x hx => by simpa using hW'.lt x hx
  have hargs : ∀ (W' : World), Below W.heap.size W W' → DataW.TrodAll enc Tryz.prog W' 0 (fun b => decide (b < W.heap.size)) true Tryz.f8.params.toList [v0, v1] [d0, d1] (p0 ++ p1) := fun W' hn => by
    have k27 : ∀ {v d ps}, DataW.Trod enc Tryz.prog W 0 (fun _ => true) true 27 v d ps → (∀ x ∈ ps, x.block < W.heap.size) → DataW.Trod enc Tryz.prog W' 0 (fun b => decide (b < W.heap.size)) true 27 v d ps :=
      fun h hl => Below.trod Tryz.laidOut (by kernel_rfl) (of_decide_eq_true (by kernel_rfl)) h hn hl
    have k5 : ∀ {v d ps}, DataW.Trod enc Tryz.prog W 0 (fun _ => true) true 5 v d ps → (∀ x ∈ ps, x.block < W.heap.size) → DataW.Trod enc Tryz.prog W' 0 (fun b => decide (b < W.heap.size)) true 5 v d ps :=
      fun h hl => Below.trod Tryz.laidOut (by kernel_rfl) (of_decide_eq_true (by kernel_rfl)) h hn hl
    rw [Tryz.params8]
    exact trodAll_mk2 (k27 h0 fun x hx => hlt x (by simp [hx])) (k5 h1 fun x hx => hlt x (by simp [hx]))
  have hcall := (hc x0 x1 y0 y1).2 (fun _ => True) W [v0, v1] (Al.cons r0 (Al.cons r1 Al.nil))
  refine hcall.mono fun e W' ⟨v, he, ⟨hB, _⟩, hr⟩ => ?_
  subst he
  obtain rfl : v = .bool true := RepA.flat_eq hr
  refine ⟨_, rfl, _, _, _, [], p0 ++ p1, [], hW', ?_, ?_, ?_, hB.frame _, fun h => by cases h⟩
  · exact trodAll_mk1 (shut_bool under4 true)
  · exact hargs W' hB
  · rfl
theorem exclusive_holds (hc : exclusiveC) : Rows.CriticalExclusiveSaid :=
  OpenClaim.holds_of_wide 8 Tryz.f8 rfl rfl rfl rfl rfl rfl rfl ⟨rfl, rfl, rfl, rfl, rfl⟩ rfl rfl rfl rfl rfl (by kernel_rfl) Tryz.func8 (by kernel_rfl)
    (of_decide_eq_true (by kernel_rfl)) (by unfold Func.isWrapper; rw [if_neg (by decide +kernel)]; exact ⟨rfl, rfl⟩)
    (fun os started H enc _ => exclusive_lifted hc os started H enc)
end Go.Proofs.YtaaflhmfhnfjhaaGreat
namespace Go.Proofs.YtaaflhmfhnfjhaaGreat
open Go.RowKit Go.Exe
theorem ytaaflhmfhnfjhaagreat_criticalExclusive_holds : Rows.CriticalExclusiveSaid := exclusive_holds fun x0 x1 h0 h1 => by
  obtain ⟨s, hs, rfl⟩ := sto_in (f := 0) h0
  obtain ⟨u, hx, hu⟩ := Typ.u8 tU5 h1
  cases hx
  exact exclusive_c sort53_c sort71_c grow85_c s hs u hu
end Go.Proofs.YtaaflhmfhnfjhaaGreat
