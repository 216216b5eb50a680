import Derived.Test.YtegcmciglakicaaGreatM6
import Derived.Test.YtegcmciglakicaaGreatM3
import Derived.Test.YtegcmciglakicaaGreatM5
namespace Go.Proofs.YtegcmciglakicaaGreat
open Go.RowKit Go.Exe
set_option linter.unusedVariables false
set_option linter.unusedSimpArgs false

/-! ### trees -/
structure Nd where
  id : Int
  pa : Int
  dep : Int
  ch : List Int
  deriving DecidableEq
structure Tr where
  tr : Int
  nds : List Nd
  roots : List Int
  orph : List Int
  cyc : List Int
  miss : List Int
def ndA (n : Nd) : List AV := [.flat (.int .i64 n.id), .flat (.int .i64 n.pa), .flat (.int .i64 n.dep), .sl 3 (n.ch.map iA)]
def ndC (n : Nd) : List Cell := [fl (.int .i64 n.id), fl (.int .i64 n.pa), fl (.int .i64 n.dep), .orow 3 (n.ch.map iA)]
def nd0 (s : Spn) : List AV := [.flat (.int .i64 s.id), .flat (.int .i64 s.pa), .flat (.int .i64 (-1)), .flat (.slice none 0 0)]
def trA (t : Tr) : List AV := [.flat (.int .i64 t.tr), .sl 59 (t.nds.map ndA), .sl 3 (t.roots.map iA), .sl 3 (t.orph.map iA), .sl 3 (t.cyc.map iA), .sl 3 (t.miss.map iA)]
abbrev trT (t : Tr) : TV := .g ((trA t).map .im)
def I64 (n : Int) : Prop := -9223372036854775808 ≤ n ∧ n ≤ 9223372036854775807
theorem koI {n : Int} (h : I64 n) : KeyOk Tryz.prog 3 (.int .i64 n) := by
  refine ⟨_, Maps.keyOf_int_mk tU3 ?_⟩
  obtain ⟨h1, h2⟩ := h
  show (decide (-9223372036854775808 ≤ n) && decide (n ≤ 9223372036854775807)) = true
  simp
  exact ⟨h1, h2⟩
/-- The index at which each id lies. -/
def atE (ids : List Int) : List (Value × Bool × List Cell) := ids.zipIdx.map fun p => (.int .i64 p.1, false, [fl (.int .i64 (p.2 : Int))])
theorem atE_keys (ids : List Int) : (atE ids).map (·.1) = ids.map (Value.int .i64) := by
  rw [atE, List.map_map]
  rw [show ((fun x : Value × Bool × List Cell => x.1) ∘ fun p : Int × Nat => (Value.int .i64 p.1, false, [fl (.int .i64 (p.2 : Int))])) = (Value.int .i64) ∘ Prod.fst from rfl, ← List.map_map, List.zipIdx_map_fst]
theorem int_inj {a b : Int} (h : Value.int .i64 a = Value.int .i64 b) : a = b := by injection h
theorem ints_nodup {l : List Int} (h : l.Nodup) : (l.map (Value.int .i64)).Nodup := by
  refine List.Pairwise.map _ (fun a b hab => fun e => hab (int_inj e)) h
theorem atE_snoc (ids : List Int) (x : Int) : atE (ids ++ [x]) = atE ids ++ [(.int .i64 x, false, [fl (.int .i64 (ids.length : Int))])] := by
  simp [atE, List.zipIdx_append]
theorem atE_put {ids : List Int} {x : Int} (h : x ∉ ids) : mput (.int .i64 x) (false, [fl (.int .i64 (ids.length : Int))]) (atE ids) = atE (ids ++ [x]) := by
  rw [mput_none, atE_snoc]
  intro e he
  have : e.1 ∈ (atE ids).map (·.1) := List.mem_map_of_mem he
  rw [atE_keys] at this
  obtain ⟨y, hy, hxy⟩ := List.mem_map.1 this
  rw [← hxy]
  exact fun e => h (int_inj e ▸ hy)
theorem atE_get {ids : List Int} {k : Nat} {x : Int} (hn : ids.Nodup) (h : ids[k]? = some x) : mget (.int .i64 x) (atE ids) = some (false, [fl (.int .i64 (k : Int))]) := by
  have h2 : (atE ids)[k]? = some (.int .i64 x, false, [fl (.int .i64 (k : Int))]) := by
    have : ids.zipIdx[k]? = some (x, k) := by simp [List.getElem?_zipIdx, h]
    simp [atE, this]
  exact mget_at (by rw [atE_keys]; exact ints_nodup hn) h2 rfl
theorem atE_none {ids : List Int} {x : Int} (h : x ∉ ids) : mget (.int .i64 x) (atE ids) = none := by
  refine mget_none fun e he => ?_
  have : e.1 ∈ (atE ids).map (·.1) := List.mem_map_of_mem he
  rw [atE_keys] at this
  obtain ⟨y, hy, hxy⟩ := List.mem_map.1 this
  rw [← hxy]
  exact fun e => h (int_inj e ▸ hy)
/-- A set of ints. -/
def msE (ks : List Int) : List (Value × Bool × List Cell) := ks.map fun k => (.int .i64 k, false, [fl (.bool true)])
def addK (ks : List Int) (k : Int) : List Int := if k ∈ ks then ks else ks ++ [k]
theorem msE_put (ks : List Int) (k : Int) : mput (.int .i64 k) (false, [fl (.bool true)]) (msE ks) = msE (addK ks k) := by
  unfold addK
  induction ks with
  | nil => simp [msE, mput]
  | cons x r ih =>
    simp only [msE, List.map_cons, mput] at ih ⊢
    by_cases h : x = k
    · subst h; simp
    · rw [if_neg (fun e => h (int_inj e)), ih]
      have : (k = x) = False := by simp; exact fun e => h e.symm
      simp only [List.mem_cons, this, false_or]
      split <;> simp
theorem msE_close (ks : List Int) : closeE (msE ks) = some (setE ks) := closeE_map _ _ (fun x => ⟨rfl, rfl, by simp [closeL, closeC]⟩) ks

def idsOf (ss : List Spn) : List Int := ss.map Spn.id
def kidsN (ss : List Spn) (n : Nat) (p : Int) : List Int := ((ss.take n).filter fun s => s.pa == p && s.pa != 0).map Spn.id
def rootsN (ss : List Spn) (n : Nat) : List Int := ((ss.take n).filter fun s => s.pa == 0).map Spn.id
def orphN (ss : List Spn) (n : Nat) : List Int := ((ss.take n).filter fun s => s.pa != 0 && !(idsOf ss).contains s.pa).map Spn.id
def missN (ss : List Spn) (n : Nat) : List Int := (((ss.take n).filter fun s => s.pa != 0 && !(idsOf ss).contains s.pa).map Spn.pa).foldl addK []
def nodesN (ss : List Spn) (n : Nat) : List Nd := ss.map fun s => ⟨s.id, s.pa, -1, kidsN ss n s.id⟩
section
variable {ss : List Spn} {i : Nat} {s : Spn} (h : ss[i]? = some s)
include h
theorem take_s : ss.take (i + 1) = ss.take i ++ [s] := by rw [List.take_add_one, h]; rfl
theorem step_root (h0 : s.pa = 0) : rootsN ss (i + 1) = rootsN ss i ++ [s.id] ∧ orphN ss (i + 1) = orphN ss i ∧ missN ss (i + 1) = missN ss i ∧ nodesN ss (i + 1) = nodesN ss i := by
  refine ⟨?_, ?_, ?_, ?_⟩
  · simp [rootsN, take_s h, h0]
  · simp [orphN, take_s h, h0]
  · simp [missN, take_s h, h0]
  · simp [nodesN, kidsN, take_s h, h0]
theorem step_orph (h0 : s.pa ≠ 0) (h1 : s.pa ∉ idsOf ss) : rootsN ss (i + 1) = rootsN ss i ∧ orphN ss (i + 1) = orphN ss i ++ [s.id] ∧ missN ss (i + 1) = addK (missN ss i) s.pa ∧ nodesN ss (i + 1) = nodesN ss i := by
  refine ⟨?_, ?_, ?_, ?_⟩
  · simp [rootsN, take_s h, h0]
  · simp [orphN, take_s h, h0, h1]
  · simp [missN, take_s h, h0, h1]
  · unfold nodesN
    refine List.map_congr_left fun x hx => ?_
    have : s.pa ≠ x.id := fun e => h1 (e ▸ List.mem_map_of_mem hx)
    simp [kidsN, take_s h, this]
theorem step_kid {k : Nat} {p : Spn} (hn : (idsOf ss).Nodup) (h0 : s.pa ≠ 0) (hk : ss[k]? = some p) (hp : s.pa = p.id) : rootsN ss (i + 1) = rootsN ss i ∧ orphN ss (i + 1) = orphN ss i ∧ missN ss (i + 1) = missN ss i ∧ nodesN ss (i + 1) = (nodesN ss i).set k ⟨p.id, p.pa, -1, kidsN ss i p.id ++ [s.id]⟩ := by
  have hin : s.pa ∈ idsOf ss := by rw [hp]; exact List.mem_map_of_mem (List.mem_of_getElem? hk)
  refine ⟨?_, ?_, ?_, ?_⟩
  · simp [rootsN, take_s h, h0]
  · simp [orphN, take_s h, h0, hin]
  · simp [missN, take_s h, h0, hin]
  · apply List.ext_getElem?
    intro j
    simp only [nodesN, List.getElem?_map, List.getElem?_set, List.length_map]
    by_cases hj : k = j
    · subst hj
      obtain ⟨hkl, hke⟩ := List.getElem?_eq_some_iff.1 hk
      simp [hkl, hke, kidsN, take_s h, ← hp, h0]
    · rw [if_neg hj]
      cases hx : ss[j]? with
      | none => rfl
      | some x =>
        have : s.pa ≠ x.id := fun e => by
          have h1 : (idsOf ss)[k]? = some p.id := by simp [idsOf, hk]
          have h2 : (idsOf ss)[j]? = some x.id := by simp [idsOf, hx]
          have h3 := (List.getElem?_eq_some_iff.1 h1).1
          have h4 := (List.getElem?_eq_some_iff.1 h2).1
          rw [List.getElem?_eq_getElem h3] at h1
          rw [List.getElem?_eq_getElem h4] at h2
          have h5 : (idsOf ss)[k] = (idsOf ss)[j] := by rw [Option.some.inj h1, Option.some.inj h2, ← hp, e]
          exact hj ((List.getElem_inj hn).1 h5)
        simp [kidsN, take_s h, this]
end
theorem imR_nd0 (l : List Spn) (s : Spn) : imR (l.map nd0) ++ [[.im (.flat (.int .i64 s.id)), .im (.flat (.int .i64 s.pa)), .im (.flat (.int .i64 (-1))), .im (.flat (.slice none 0 0))]] = imR ((l ++ [s]).map nd0) := by simp [imR, imL, nd0]
theorem nd0_CN (ss : List Spn) : Al (Al (CN Tryz.prog)) (imR (ss.map nd0)) ((nodesN ss 0).map ndC) := by
  refine ⟨by simp [imR, nodesN], fun i u x hu hx => ?_⟩
  simp only [imR, nodesN, List.map_map, List.getElem?_map, Option.map_eq_some_iff] at hu hx
  obtain ⟨s, hs, rfl⟩ := hu
  obtain ⟨s', hs', rfl⟩ := hx
  rw [hs] at hs'
  cases hs'
  refine ⟨rfl, fun j c d hc hd => ?_⟩
  match j with
  | 0 => simp [nd0, imL, ndC] at hc hd; subst hc; subst hd; exact .same _
  | 1 => simp [nd0, imL, ndC] at hc hd; subst hc; subst hd; exact .same _
  | 2 => simp [nd0, imL, ndC] at hc hd; subst hc; subst hd; exact .same _
  | 3 => simp [nd0, imL, ndC, kidsN] at hc hd; subst hc; subst hd; exact .nil tE3 (by decide)
  | j + 4 => simp [nd0, imL] at hc
theorem rnEs_map {α : Type} (r : Ren) (f : α → Value × Bool × List Cell) (h : ∀ x, rnCs r (f x).2.2 = (f x).2.2) : ∀ l : List α, rnEs r (l.map f) = l.map f
  | [] => rfl
  | x :: l => by simp only [List.map_cons, rnEs, h x, rnEs_map r f h l]
theorem rnEs_atE (r : Ren) (ids : List Int) : rnEs r (atE ids) = atE ids := rnEs_map r _ (fun _ => rfl) _
theorem rnEs_msE (r : Ren) (ks : List Int) : rnEs r (msE ks) = msE ks := rnEs_map r _ (fun _ => rfl) _
theorem rnCss_ndC (r : Ren) : ∀ l : List Nd, rnCss r (l.map ndC) = l.map ndC
  | [] => rfl
  | x :: l => by simp only [List.map_cons, rnCss, rnCss_ndC r l]; rfl
theorem nodesN_len (ss : List Spn) (i : Nat) : (nodesN ss i).length = ss.length := by simp [nodesN]
theorem nodesN_at {ss : List Spn} {j : Nat} {s : Spn} (i : Nat) (h : ss[j]? = some s) : ((nodesN ss i).map ndC)[j]? = some [fl (.int .i64 s.id), fl (.int .i64 s.pa), fl (.int .i64 (-1)), .orow 3 ((kidsN ss i s.id).map iA)] := by simp [nodesN, h, ndC]
theorem kidsN_le (ss : List Spn) (i : Nat) (p : Int) : (kidsN ss i p).length ≤ i := by
  have := List.length_filter_le (fun s : Spn => s.pa == p && s.pa != 0) (ss.take i)
  simp only [kidsN, List.length_map]; rw [List.length_take] at this; omega
theorem rootsN_le (ss : List Spn) (i : Nat) : (rootsN ss i).length ≤ i := by
  have := List.length_filter_le (fun s : Spn => s.pa == 0) (ss.take i)
  simp only [rootsN, List.length_map]; rw [List.length_take] at this; omega
theorem orphN_le (ss : List Spn) (i : Nat) : (orphN ss i).length ≤ i := by
  have := List.length_filter_le (fun s : Spn => s.pa != 0 && !(idsOf ss).contains s.pa) (ss.take i)
  simp only [orphN, List.length_map]; rw [List.length_take] at this; omega
theorem setR_get (p : Nat) (c : Cell) : ∀ (xs : List (List Cell)) (k j : Nat), (setR xs k p c)[j]? = if k = j then (xs[j]?).map fun x => x.set p c else xs[j]?
  | [], k, j => by simp [setR]
  | x :: r, 0, 0 => by simp [setR]
  | x :: r, 0, j + 1 => by simp [setR]
  | x :: r, k + 1, 0 => by simp [setR]
  | x :: r, k + 1, j + 1 => by simp [setR, setR_get p c r k j]
theorem setR_len (p : Nat) (c : Cell) : ∀ (xs : List (List Cell)) (k : Nat), (setR xs k p c).length = xs.length
  | [], _ => rfl
  | x :: r, 0 => rfl
  | x :: r, k + 1 => by simp [setR, setR_len p c r k]
theorem setR_fin {ns : List Nd} {k : Nat} (hk : k < ns.length) (c1 c2 : Cell) (a b d : Int) (ch : List Int) :
    setR ((setR (ns.map ndC) k 3 c1).set k [fl (.int .i64 a), fl (.int .i64 b), fl (.int .i64 d), c2]) k 3 (.orow 3 (ch.map iA)) = (ns.set k ⟨a, b, d, ch⟩).map ndC := by
  apply List.ext_getElem?
  intro j
  rw [setR_get, List.getElem?_map, List.getElem?_set, List.getElem?_set, setR_get, setR_len, List.length_map]
  by_cases h : k = j
  · subst h; simp [hk, ndC]
  · simp [h]
theorem setR_back {ns : List Nd} {k : Nat} {n : Nd} (hk : ns[k]? = some n) (c1 : Cell) : setR (setR (ns.map ndC) k 3 c1) k 3 (.orow 3 (n.ch.map iA)) = ns.map ndC := by
  apply List.ext_getElem?
  intro j
  rw [setR_get, setR_get, List.getElem?_map]
  by_cases h : k = j
  · subst h; simp [hk, ndC]
  · simp [h]
theorem msE_mget (key : Value) : ∀ ks : List Int, mget key (msE ks) = none ∨ mget key (msE ks) = some (false, [fl (.bool true)])
  | [] => .inl rfl
  | k :: r => by
    simp only [msE, List.map_cons, mget]
    split
    · exact .inr rfl
    · exact msE_mget key r
theorem msE_noOwn (key : Value) (ks : List Int) : (match mget key (msE ks) with | some y => noOwn y.2 | none => true) = true := by
  rcases msE_mget key ks with h | h <;> rw [h] <;> rfl
end Go.Proofs.YtegcmciglakicaaGreat
namespace Go.Proofs.YtegcmciglakicaaGreat
open Go.RowKit Go.Exe
set_option linter.unusedVariables false
set_option linter.unusedSimpArgs false

/-! ### the levels of a tree -/
def kidsF (ss : List Spn) (p : Int) : List Int := kidsN ss ss.length p
def topsF (ss : List Spn) : List Int := rootsN ss ss.length ++ orphN ss ss.length
def lev (ss : List Spn) : Nat → List Int
  | 0 => topsF ss
  | d + 1 => (lev ss d).flatMap (kidsF ss)
def depN (ss : List Spn) : Nat → Int → Int
  | 0, _ => -1
  | d + 1, x => if x ∈ lev ss d then (d : Int) else depN ss d x
def nodesD (ss : List Spn) (d : Nat) : List Nd := ss.map fun s => ⟨s.id, s.pa, depN ss d s.id, kidsF ss s.id⟩
def nodesI (ss : List Spn) (d i : Nat) : List Nd := ss.map fun s => ⟨s.id, s.pa, if s.id ∈ (lev ss d).take i then (d : Int) else depN ss d s.id, kidsF ss s.id⟩
def nextI (ss : List Spn) (d i : Nat) : List Int := ((lev ss d).take i).flatMap (kidsF ss)
theorem nodesN_D (ss : List Spn) : nodesN ss ss.length = nodesD ss 0 := rfl
theorem nodesI_0 (ss : List Spn) (d : Nat) : nodesI ss d 0 = nodesD ss d := by simp [nodesI, nodesD]
theorem nodesI_all (ss : List Spn) (d : Nat) : nodesI ss d (lev ss d).length = nodesD ss (d + 1) := by simp [nodesI, nodesD, depN]
theorem nextI_all (ss : List Spn) (d : Nat) : nextI ss d (lev ss d).length = lev ss (d + 1) := by simp [nextI, lev]
theorem mem_kids {ss : List Spn} {p x : Int} : x ∈ kidsF ss p ↔ ∃ s ∈ ss, s.id = x ∧ s.pa = p ∧ s.pa ≠ 0 := by
  simp only [kidsF, kidsN, List.take_length, List.mem_map, List.mem_filter, Bool.and_eq_true, beq_iff_eq, bne_iff_ne]
  constructor
  · rintro ⟨s, ⟨h1, h2, h3⟩, h4⟩; exact ⟨s, h1, h4, h2, h3⟩
  · rintro ⟨s, h1, h4, h2, h3⟩; exact ⟨s, ⟨h1, h2, h3⟩, h4⟩
theorem mem_tops {ss : List Spn} {x : Int} : x ∈ topsF ss ↔ ∃ s ∈ ss, s.id = x ∧ (s.pa = 0 ∨ s.pa ∉ idsOf ss) := by
  simp only [topsF, rootsN, orphN, List.take_length, List.mem_append, List.mem_map, List.mem_filter, Bool.and_eq_true, beq_iff_eq, bne_iff_ne, Bool.not_eq_true', List.contains_eq_mem, decide_eq_false_iff_not]
  constructor
  · rintro (⟨s, ⟨h1, h2⟩, h3⟩ | ⟨s, ⟨h1, h2, h4⟩, h3⟩)
    · exact ⟨s, h1, h3, .inl h2⟩
    · exact ⟨s, h1, h3, .inr h4⟩
  · rintro ⟨s, h1, h3, h2⟩
    by_cases h0 : s.pa = 0
    · exact .inl ⟨s, ⟨h1, h0⟩, h3⟩
    · exact .inr ⟨s, ⟨h1, h0, h2.resolve_left h0⟩, h3⟩
theorem lev_ids {ss : List Spn} : ∀ (d : Nat) {x : Int}, x ∈ lev ss d → x ∈ idsOf ss
  | 0, x, h => by
    obtain ⟨s, hs, rfl, _⟩ := mem_tops.1 h
    exact List.mem_map_of_mem hs
  | d + 1, x, h => by
    obtain ⟨p, _, hx⟩ := List.mem_flatMap.1 h
    obtain ⟨s, hs, rfl, _⟩ := mem_kids.1 hx
    exact List.mem_map_of_mem hs
theorem id_uni {ss : List Spn} (hn : (idsOf ss).Nodup) {s s' : Spn} (h : s ∈ ss) (h' : s' ∈ ss) (e : s.id = s'.id) : s = s' := by
  obtain ⟨i, hi⟩ := List.getElem?_of_mem h
  obtain ⟨j, hj⟩ := List.getElem?_of_mem h'
  have h1 : (idsOf ss)[i]? = some s.id := by simp [idsOf, hi]
  have h2 : (idsOf ss)[j]? = some s'.id := by simp [idsOf, hj]
  obtain ⟨h3, h4⟩ := List.getElem?_eq_some_iff.1 h1
  obtain ⟨h5, h6⟩ := List.getElem?_eq_some_iff.1 h2
  have : i = j := (List.getElem_inj hn).1 (by rw [h4, h6, e])
  subst this
  rw [hi] at hj
  exact Option.some.inj hj
theorem lev_one {ss : List Spn} (hn : (idsOf ss).Nodup) : ∀ (d e : Nat) {x : Int}, x ∈ lev ss d → x ∈ lev ss e → d = e
  | 0, 0, _, _, _ => rfl
  | 0, e + 1, x, h, h' => by
    obtain ⟨s, hs, rfl, ht⟩ := mem_tops.1 h
    obtain ⟨p, hp, hx⟩ := List.mem_flatMap.1 h'
    obtain ⟨s', hs', e1, e2, e3⟩ := mem_kids.1 hx
    obtain rfl := id_uni hn hs' hs e1
    rcases ht with h0 | h0
    · exact absurd h0 e3
    · exact absurd (e2 ▸ lev_ids e hp) h0
  | d + 1, 0, x, h, h' => by
    obtain ⟨s, hs, rfl, ht⟩ := mem_tops.1 h'
    obtain ⟨p, hp, hx⟩ := List.mem_flatMap.1 h
    obtain ⟨s', hs', e1, e2, e3⟩ := mem_kids.1 hx
    obtain rfl := id_uni hn hs' hs e1
    rcases ht with h0 | h0
    · exact absurd h0 e3
    · exact absurd (e2 ▸ lev_ids d hp) h0
  | d + 1, e + 1, x, h, h' => by
    obtain ⟨p, hp, hx⟩ := List.mem_flatMap.1 h
    obtain ⟨p', hp', hx'⟩ := List.mem_flatMap.1 h'
    obtain ⟨s, hs, e1, e2, _⟩ := mem_kids.1 hx
    obtain ⟨s', hs', e1', e2', _⟩ := mem_kids.1 hx'
    obtain rfl := id_uni hn hs hs' (e1.trans e1'.symm)
    have : p = p' := e2.symm.trans e2'
    subst this
    rw [lev_one hn d e hp hp']
theorem kids_nodup {ss : List Spn} (hn : (idsOf ss).Nodup) (p : Int) : (kidsF ss p).Nodup := by
  refine hn.sublist ?_
  simp only [kidsF, kidsN, List.take_length, idsOf]
  exact List.Sublist.map _ List.filter_sublist
theorem lev_nodup {ss : List Spn} (hn : (idsOf ss).Nodup) : ∀ d, (lev ss d).Nodup
  | 0 => by
    simp only [lev, topsF]
    refine List.nodup_append.2 ⟨?_, ?_, fun a ha b hb e => ?_⟩
    · refine hn.sublist ?_
      simp only [rootsN, List.take_length, idsOf]
      exact List.Sublist.map _ List.filter_sublist
    · refine hn.sublist ?_
      simp only [orphN, List.take_length, idsOf]
      exact List.Sublist.map _ List.filter_sublist
    · subst e
      simp only [rootsN, orphN, List.take_length, List.mem_map, List.mem_filter, Bool.and_eq_true, beq_iff_eq, bne_iff_ne] at ha hb
      obtain ⟨s, ⟨h1, h2⟩, h3⟩ := ha
      obtain ⟨s', ⟨h1', h2', _⟩, h3'⟩ := hb
      obtain rfl := id_uni hn h1 h1' (h3.trans h3'.symm)
      exact h2' h2
  | d + 1 => by
    refine List.pairwise_flatMap.2 ⟨fun a _ => kids_nodup hn a, (lev_nodup hn d).imp fun {a b} hab x hx y hy e => ?_⟩
    subst e
    obtain ⟨s, hs, e1, e2, _⟩ := mem_kids.1 hx
    obtain ⟨s', hs', e1', e2', _⟩ := mem_kids.1 hy
    obtain rfl := id_uni hn hs hs' (e1.trans e1'.symm)
    exact hab (e2.symm.trans e2')
theorem levs_len {ss : List Spn} (hn : (idsOf ss).Nodup) (d : Nat) : ((List.range d).flatMap (lev ss)).length ≤ ss.length := by
  have h1 : ((List.range d).flatMap (lev ss)).Nodup := List.pairwise_flatMap.2 ⟨fun a _ => lev_nodup hn a, (List.nodup_range (n := d)).imp fun {a b} hab x hx y hy e => hab (lev_one hn a b hx (e ▸ hy))⟩
  have h2 : (List.range d).flatMap (lev ss) ⊆ idsOf ss := fun x hx => by
    obtain ⟨e, _, hx⟩ := List.mem_flatMap.1 hx
    exact lev_ids e hx
  have := h1.length_le_of_subset h2
  simpa [idsOf] using this
theorem lev_le {ss : List Spn} (hn : (idsOf ss).Nodup) (d : Nat) : (lev ss d).length ≤ ss.length := by
  have := (lev_nodup hn d).length_le_of_subset (fun x hx => lev_ids d hx)
  simpa [idsOf] using this
theorem nextI_le {ss : List Spn} (hn : (idsOf ss).Nodup) (d i : Nat) : (nextI ss d i).length ≤ ss.length := by
  have h1 : (nextI ss d i).Sublist (lev ss (d + 1)) := by
    simp only [nextI, lev]
    have := List.take_append_drop i (lev ss d)
    rw [← this, List.flatMap_append]
    simp
  exact Nat.le_trans h1.length_le (lev_le hn (d + 1))
theorem lev_down {ss : List Spn} : ∀ d e, e ≤ d → lev ss d ≠ [] → lev ss e ≠ []
  | 0, e, h, h' => by obtain rfl : e = 0 := by omega
                      exact h'
  | d + 1, e, h, h' => by
    by_cases he : e = d + 1
    · subst he; exact h'
    · refine lev_down d e (by omega) fun h0 => h' ?_
      simp [lev, h0]
theorem dep_lt {ss : List Spn} (hn : (idsOf ss).Nodup) {d : Nat} (h : lev ss d ≠ []) : d < ss.length := by
  have h1 := levs_len hn (d + 1)
  have h2 : ∀ n, (∀ e, e < n → lev ss e ≠ []) → n ≤ ((List.range n).flatMap (lev ss)).length := by
    intro n
    induction n with
    | zero => intro _; simp
    | succ n ih =>
      intro he
      have h3 := ih fun e h => he e (by omega)
      have h4 : 0 < (lev ss n).length := List.length_pos_iff.2 (he n (by omega))
      have h5 : ([n].flatMap (lev ss)).length = (lev ss n).length := by simp
      rw [List.range_succ, List.flatMap_append, List.length_append, h5]
      omega
  have := h2 (d + 1) fun e he => lev_down d e (by omega) h
  omega
section
variable {ss : List Spn} {d i k : Nat} {x : Int} {p : Spn}
theorem nodesI_step (hn : (idsOf ss).Nodup) (hx : (lev ss d)[i]? = some x) (hp : ss[k]? = some p) (e : p.id = x) : nodesI ss d (i + 1) = (nodesI ss d i).set k ⟨p.id, p.pa, d, kidsF ss p.id⟩ := by
  subst e
  have ht : (lev ss d).take (i + 1) = (lev ss d).take i ++ [p.id] := by rw [List.take_add_one, hx]; rfl
  apply List.ext_getElem?
  intro j
  simp only [nodesI, List.getElem?_map, List.getElem?_set, List.length_map, ht]
  by_cases hj : k = j
  · subst hj
    obtain ⟨hkl, hke⟩ := List.getElem?_eq_some_iff.1 hp
    simp [hkl, hke]
  · rw [if_neg hj]
    cases hs : ss[j]? with
    | none => rfl
    | some s =>
      have : s.id ≠ p.id := fun e => by
        have h1 : (idsOf ss)[k]? = some p.id := by simp [idsOf, hp]
        have h2 : (idsOf ss)[j]? = some s.id := by simp [idsOf, hs]
        obtain ⟨h3, h4⟩ := List.getElem?_eq_some_iff.1 h1
        obtain ⟨h5, h6⟩ := List.getElem?_eq_some_iff.1 h2
        exact hj ((List.getElem_inj hn).1 (by rw [h4, h6, e]))
      simp [this]
theorem nextI_step (hx : (lev ss d)[i]? = some x) : nextI ss d (i + 1) = nextI ss d i ++ kidsF ss x := by
  have ht : (lev ss d).take (i + 1) = (lev ss d).take i ++ [x] := by rw [List.take_add_one, hx]; rfl
  simp [nextI, ht, List.flatMap_append]
theorem nodesI_len : (nodesI ss d i).length = ss.length := by simp [nodesI]
theorem nodesD_len : (nodesD ss d).length = ss.length := by simp [nodesD]
theorem nodesI_at (hp : ss[k]? = some p) : ∃ b, ((nodesI ss d i).map ndC)[k]? = some [fl (.int .i64 p.id), fl (.int .i64 p.pa), fl (.int .i64 b), .orow 3 ((kidsF ss p.id).map iA)] := ⟨_, by simp [nodesI, hp, ndC]; rfl⟩
theorem nodesD_at (hp : ss[k]? = some p) : ((nodesD ss d).map ndC)[k]? = some [fl (.int .i64 p.id), fl (.int .i64 p.pa), fl (.int .i64 (depN ss d p.id)), .orow 3 ((kidsF ss p.id).map iA)] := by simp [nodesD, hp, ndC]
theorem nodesI_set (hn : (idsOf ss).Nodup) (hx : (lev ss d)[i]? = some x) (hp : ss[k]? = some p) (e : p.id = x) : ((nodesI ss d i).map ndC).set k [fl (.int .i64 p.id), fl (.int .i64 p.pa), fl (.int .i64 (d : Int)), .orow 3 ((kidsF ss p.id).map iA)] = (nodesI ss d (i + 1)).map ndC := by
  rw [nodesI_step hn hx hp e, List.map_set]; rfl
theorem nodesI_n (hp : ss[k]? = some p) : ∃ b, (nodesI ss d i)[k]? = some ⟨p.id, p.pa, b, kidsF ss p.id⟩ := ⟨_, by simp [nodesI, hp]; rfl⟩
end
theorem lev_end {ss : List Spn} {d : Nat} (h : lev ss d = []) : ∀ e, d ≤ e → lev ss e = []
  | 0, he => by obtain rfl : d = 0 := by omega
                exact h
  | e + 1, he => by
    by_cases h1 : d = e + 1
    · rw [← h1]; exact h
    · simp [lev, lev_end h e (by omega)]
theorem depN_end {ss : List Spn} {d : Nat} (h : lev ss d = []) (x : Int) : ∀ e, d ≤ e → depN ss e x = depN ss d x
  | 0, he => by obtain rfl : d = 0 := by omega
                rfl
  | e + 1, he => by
    by_cases h1 : d = e + 1
    · rw [h1]
    · simp [depN, lev_end h e (by omega), depN_end h x e (by omega)]
theorem nodesD_end {ss : List Spn} {d : Nat} (h : lev ss d = []) (hd : d ≤ ss.length) : nodesD ss d = nodesD ss ss.length := by
  unfold nodesD
  exact List.map_congr_left fun s _ => by rw [depN_end h s.id _ hd]
def cycN (ss : List Spn) (i : Nat) : List Int := ((ss.take i).filter fun s => decide (depN ss ss.length s.id < 0)).map Spn.id
theorem cycN_le (ss : List Spn) (i : Nat) : (cycN ss i).length ≤ i := by
  have := List.length_filter_le (fun s : Spn => decide (depN ss ss.length s.id < 0)) (ss.take i)
  simp only [cycN, List.length_map]; rw [List.length_take] at this; omega
theorem missN_le (ss : List Spn) (i : Nat) : (missN ss i).length ≤ i := by
  have h1 : ∀ (l a : List Int), (l.foldl addK a).length ≤ l.length + a.length := by
    intro l
    induction l with
    | nil => intro a; simp
    | cons x r ih =>
      intro a
      have := ih (addK a x)
      have h2 : (addK a x).length ≤ a.length + 1 := by unfold addK; split <;> simp
      simp only [List.foldl_cons, List.length_cons]
      omega
  have h2 := h1 (((ss.take i).filter fun s => s.pa != 0 && !(idsOf ss).contains s.pa).map Spn.pa) []
  have h3 := List.length_filter_le (fun s : Spn => s.pa != 0 && !(idsOf ss).contains s.pa) (ss.take i)
  rw [List.length_take] at h3
  simp only [List.length_map, List.length_nil] at h2
  unfold missN
  omega
theorem closeR_ndC (l : List Nd) : closeR (l.map ndC) = some (l.map ndA) := closeR_map _ _ (fun x => by simp [ndC, ndA, closeL, closeC]) l
/-- The tree of a trace, out of the trace's spans. -/
def treeOf (t : Int) (ss : List Spn) : Tr := ⟨t, nodesD ss ss.length, rootsN ss ss.length, orphN ss ss.length, cycN ss ss.length, srtI (missN ss ss.length)⟩
end Go.Proofs.YtegcmciglakicaaGreat
namespace Go.Proofs.YtegcmciglakicaaGreat
open Go.RowKit Go.Exe
set_option linter.unusedVariables false
set_option linter.unusedSimpArgs false
set_option maxHeartbeats 8000000
set_option maxRecDepth 100000
attribute [local irreducible] W AX Run RunD AStep AOp AOpX AStB AStH AStG Fits PCall GCall PostG Post Stop
theorem build_c (c141 : SortC Tryz.prog 141 14) (c60 : SortI Tryz.prog 60) (g62 : GrowC Tryz.prog 62 3 1 8) (l : List Spn) (t : Int) (hnd : (idsOf (ofS l t)).Nodup) (hI : ∀ s ∈ ofS l t, I64 s.id ∧ I64 s.pa) :
    PCall Tryz.prog 13 [spsT l, ft (.int .i64 t)] (trT (treeOf t (ofS l t))) := by
  have c20 := of_c c141 l t
  generalize hss : ofS l t = ss at *
  refine PCall.intro (nt := 163) (rs := [.cell 4 50]) Tryz.func13 rfl ⟨by kernel_rfl, by kernel_rfl, by kernel_rfl⟩ (by simp) ?_
  rintro ⟨P, w0, ok0, may, np, pblk⟩ rfl rfl
  repeat' (first | ((show W _ _ _ _); first | refine W.seq fun K hK => ?_ | refine W.block ?_ | ((first | refine wR ?_ | refine wD ?_ | refine W.skip ?_ | refine W.exit ?_ | refine W.ret (Post.ret ?_)); simp only [go_sem, reduceCtorEq, List.length_map]) | refine wT ?_ | refine wF ?_ | refine wC (fun h => ?_) (fun h => ?_)) | ((show AX _ _ _ _ _); (first | refine aP ?_ | refine aF ?_ | refine aL ?_ | refine aU (hnn := by simp only [go_sem, reduceCtorEq, List.length_map]) ?_ | refine aM ?_ | refine aN ?_ | refine aR ?_); simp only [go_sem, reduceCtorEq, List.length_map]) | refine iK ?_ | refine aI2 ?_ | (refine hK _ ?_; clear hK K) | clear hK K)
  refine W.lenB 26 rfl tE35 fun _ hsm => ?_
  rw [List.length_map] at hsm
  refine W.loopF (T := fun i : Nat => { t := [(4, .c (.ptr 0 0)), (5, .c (.ptr 1 0)), (6, .c (.mp 3)), (26, spsT ss), (27, ft (.int .i64 ss.length)), (28, ft (.int .i64 (i : Nat)))], h := [(0, .box 50 [fl (.int .i64 0), fl (.slice none 0 0), fl (.slice none 0 0), fl (.slice none 0 0), fl (.slice none 0 0), fl (.slice none 0 0)]), (1, .box 50 [fl (.int .i64 t), .ref 2, fl (.slice none 0 0), fl (.slice none 0 0), fl (.slice none 0 0), fl (.slice none 0 0)]), (2, .row 59 (imR ((ss.take i).map nd0))), (3, .map 3 (atE (idsOf (ss.take i))))], nx := 4, ex := [], nt := 163 })
    (Inv := fun i => i ≤ ss.length) (μ := fun i => ss.length - i) (x0 := 0) ?_ (Nat.zero_le _) ?_
  · refine Fits.adoptB 3 50 _ 1 99 59 rfl rfl rfl rfl tE59 rfl ?_
    refine Fits.fit [(0, 0), (3, 1), (99, 2), (5, 3)] [4, 5, 6, 26, 27, 28] 4 rfl rfl ?_
    simp only [go_sem, List.take_zero, List.map_nil, imR_nil, idsOf, atE, List.zipIdx_nil]
    exact Fits.rfl
  rintro i hi KL hKL
  by_cases hlt : i < ss.length
  · obtain ⟨s, hx, hm, hd⟩ := drop_at hlt
    have e1 : decide ((i : Int) < ss.length) = true := by simp; omega
    have hw := w64s i (by omega)
    have hko := koI (hI s hm).1
    have hlen : (ss.take i).length = i := by rw [List.length_take]; omega
    have hids : idsOf (ss.take (i + 1)) = idsOf (ss.take i) ++ [s.id] := by rw [take_s hx]; simp [idsOf]
    have hnew : s.id ∉ idsOf (ss.take i) := by
      have : (idsOf (ss.take (i + 1))).Nodup := (hnd.sublist (List.Sublist.map _ (List.take_sublist _ _)))
      rw [hids, List.nodup_append] at this
      exact fun h => this.2.2 _ h _ (by simp) rfl
    have hput := atE_put hnew
    have hil : (idsOf (ss.take i)).length = i := by simp [idsOf]; omega
    rw [hil, ← hids] at hput
    have hget := atE_none hnew
    repeat' (first | ((show W _ _ _ _); first | refine W.seq fun K hK => ?_ | refine W.block ?_ | ((first | refine wR ?_ | refine wD ?_ | refine W.skip ?_ | refine W.exit ?_ | refine W.ret (Post.ret ?_)); simp only [go_sem, reduceCtorEq, List.getElem?_map, hx, spA, e1, hw, List.length_map, imR_len, hlen, hput, hget]) | refine wT ?_ | refine wF ?_ | refine wC (fun h => ?_) (fun h => ?_)) | ((show AX _ _ _ _ _); (first | refine aP ?_ | refine aF ?_ | refine aL ?_ | refine aU (hnn := by simp only [go_sem, reduceCtorEq, List.getElem?_map, hx, spA, e1, hw, List.length_map, imR_len, hlen, hput, hget]) ?_ | refine aM ?_ | refine aN ?_ | refine aR ?_); simp only [go_sem, reduceCtorEq, List.getElem?_map, hx, spA, e1, hw, List.length_map, imR_len, hlen, hput, hget]) | refine iK ?_ | refine aI2 ?_ | (refine hK _ ?_; clear hK K) | clear hK K)
    refine hKL.to (i + 1) (by omega) (by omega) (Fits.fit [(0, 0), (1, 1), (24, 2), (3, 3)] [4, 5, 6, 26, 27, 28] 4 rfl rfl ?_)
    have e9 : (ss.take (i + 1)).map nd0 = (ss.take i ++ [s]).map nd0 := by rw [take_s hx]
    simp only [go_sem, e9, imR_nd0, rnEs_atE]
    exact Fits.rfl
  obtain rfl : i = ss.length := by omega
  have e1 : decide ((ss.length : Int) < ss.length) = false := by simp
  clear hKL
  repeat' (first | ((show W _ _ _ _); first | refine W.seq fun K hK => ?_ | refine W.block ?_ | ((first | refine wR ?_ | refine wD ?_ | refine W.skip ?_ | refine W.exit ?_ | refine W.ret (Post.ret ?_)); simp only [go_sem, reduceCtorEq, e1, List.take_length, imR_len, List.length_map]) | refine wT ?_ | refine wF ?_ | refine wC (fun h => ?_) (fun h => ?_)) | ((show AX _ _ _ _ _); (first | refine aP ?_ | refine aF ?_ | refine aL ?_ | refine aU (hnn := by simp only [go_sem, reduceCtorEq, e1, List.take_length, imR_len, List.length_map]) ?_ | refine aM ?_ | refine aN ?_ | refine aR ?_); simp only [go_sem, reduceCtorEq, e1, List.take_length, imR_len, List.length_map]) | refine iK ?_ | refine aI2 ?_ | (refine hK _ ?_; clear hK K) | clear hK K)
  refine W.loopF (T := fun i : Nat => { t := [(4, .c (.ptr 0 0)), (5, .c (.ptr 1 0)), (6, .c (.mp 3)), (9, .c (.mp 4)), (51, .c (.ref 2)), (52, ft (.int .i64 ss.length)), (53, ft (.int .i64 (i : Nat)))], h := [(0, .box 50 [fl (.int .i64 0), fl (.slice none 0 0), fl (.slice none 0 0), fl (.slice none 0 0), fl (.slice none 0 0), fl (.slice none 0 0)]), (1, .box 50 [fl (.int .i64 t), .ref 2, .ref 5, .ref 6, fl (.slice none 0 0), fl (.slice none 0 0)]), (2, .nrow 59 ((nodesN ss i).map ndC)), (3, .map 3 (atE (idsOf ss))), (4, .map 3 (msE (missN ss i))), (5, .row 3 (imR ((rootsN ss i).map iA))), (6, .row 3 (imR ((orphN ss i).map iA)))], nx := 7, ex := [], nt := 163 })
    (Inv := fun i => i ≤ ss.length) (μ := fun i => ss.length - i) (x0 := 0) ?_ (Nat.zero_le _) ?_
  · refine Fits.adoptB 1 50 _ 2 98 3 rfl rfl rfl rfl tE3 rfl ?_
    refine Fits.adoptB 1 50 _ 3 99 3 rfl rfl rfl rfl tE3 rfl ?_
    refine Fits.toN 2 ((nodesN ss 0).map ndC) rfl (nd0_CN ss) ?_
    refine Fits.fit [(0, 0), (1, 1), (2, 2), (3, 3), (5, 4), (98, 5), (99, 6)] [4, 5, 6, 9, 51, 52, 53] 7 rfl rfl ?_
    simp only [go_sem, rnEs_atE, rnCss_ndC, rootsN, orphN, missN, List.take_zero, List.filter_nil, List.map_nil, imR_nil, List.foldl_nil, msE]
    exact Fits.rfl
  rintro i hi KL hKL
  by_cases hlt : i < ss.length
  · obtain ⟨s, hx, hm, hd⟩ := drop_at hlt
    have e1 : decide ((i : Int) < ss.length) = true := by simp; omega
    have e2 : decide (i < ss.length) = true := by simp; omega
    have hw := w64s i (by omega)
    have hko := koI (hI s hm).2
    have hnx := nodesN_at i hx
    have hrl := rootsN_le ss i
    have hol := orphN_le ss i
    by_cases hin : s.pa ∈ idsOf ss
    · obtain ⟨k, hk⟩ := List.getElem?_of_mem hin
      have hget := atE_get hnd hk
      by_cases h0 : s.pa = 0
      · have e3 : (s.pa == 0) = true := by simp [h0]
        obtain ⟨g1, g2, g3, g4⟩ := step_root hx h0
        repeat' (first | ((show W _ _ _ _); first | refine W.seq fun K hK => ?_ | refine W.block ?_ | ((first | refine wR ?_ | refine wD ?_ | refine W.skip ?_ | refine W.exit ?_ | refine W.ret (Post.ret ?_)); simp only [go_sem, reduceCtorEq, List.length_map, nodesN_len, imR_len, e1, e2, e3, hw, hnx, hget]) | refine wT ?_ | refine wF ?_ | refine wC (fun h => ?_) (fun h => ?_)) | ((show AX _ _ _ _ _); (first | refine aP ?_ | refine aF ?_ | refine aL ?_ | refine aU (hnn := by simp only [go_sem, reduceCtorEq, List.length_map, nodesN_len, imR_len, e1, e2, e3, hw, hnx, hget]) ?_ | refine aM ?_ | refine aN ?_ | refine aR ?_); simp only [go_sem, reduceCtorEq, List.length_map, nodesN_len, imR_len, e1, e2, e3, hw, hnx, hget]) | refine iK ?_ | refine aI2 ?_ | (refine hK _ ?_; clear hK K) | clear hK K)
        refine hKL.to (i + 1) (by omega) (by omega) (Fits.fit [(0, 0), (1, 1), (2, 2), (3, 3), (4, 4), (30, 5), (6, 6)] [4, 5, 6, 9, 51, 52, 53] 7 rfl rfl ?_)
        simp only [go_sem, rnEs_atE, rnEs_msE, rnCss_ndC, imR_snocI, g1, g2, g3, g4]
        exact Fits.rfl
      · have e3 : (s.pa == 0) = false := by simp [h0]
        have hkl : k < ss.length := by have := (List.getElem?_eq_some_iff.1 hk).1; simpa [idsOf] using this
        obtain ⟨p, hp, hpm, _⟩ := drop_at hkl
        have hpi : s.pa = p.id := by simpa [idsOf, hp] using hk.symm
        obtain ⟨g1, g2, g3, g4⟩ := step_kid hx hnd h0 hp hpi
        have hkx := nodesN_at i hp
        have e4 : decide (k < ss.length) = true := by simp; omega
        have hkle := kidsN_le ss i p.id
        repeat' (first | ((show W _ _ _ _); first | refine W.stop (id := 19) ?_ | refine W.seq fun K hK => ?_ | refine W.block ?_ | ((first | refine wR ?_ | refine wD ?_ | refine W.skip ?_ | refine W.exit ?_ | refine W.ret (Post.ret ?_)); simp only [go_sem, reduceCtorEq, List.length_map, nodesN_len, imR_len, e1, e2, e3, hw, hnx, hget]) | refine wT ?_ | refine wF ?_ | refine wC (fun h => ?_) (fun h => ?_)) | ((show AX _ _ _ _ _); (first | refine aP ?_ | refine aF ?_ | refine aL ?_ | refine aU (hnn := by simp only [go_sem, reduceCtorEq, List.length_map, nodesN_len, imR_len, e1, e2, e3, hw, hnx, hget]) ?_ | refine aM ?_ | refine aN ?_ | refine aR ?_); simp only [go_sem, reduceCtorEq, List.length_map, nodesN_len, imR_len, e1, e2, e3, hw, hnx, hget]) | refine iK ?_ | refine aI2 ?_ | (refine hK _ ?_; clear hK K) | clear hK K)
        refine Stop.out ?_
        refine W.fits (Fits.unf 2 k 3 200 rfl rfl (by simp only [go_sem, hkx]; rfl) rfl rfl Fits.rfl) ?_
        simp only [go_sem]
        have hk2 := setR_get 3 (.ref 200) ((nodesN ss i).map ndC) k k
        rw [if_pos rfl, hkx] at hk2
        simp only [Option.map_some, List.set_cons_succ, List.set_cons_zero] at hk2
        repeat' (first | ((show W _ _ _ _); first | refine W.seq fun K hK => ?_ | refine W.block ?_ | ((first | refine wR ?_ | refine wD ?_ | refine W.skip ?_ | refine W.exit ?_ | refine W.ret (Post.ret ?_)); simp only [go_sem, reduceCtorEq, List.length_map, nodesN_len, setR_len, imR_len, e4, hk2, hw]) | refine wT ?_ | refine wF ?_ | refine wC (fun h => ?_) (fun h => ?_)) | ((show AX _ _ _ _ _); (first | refine aP ?_ | refine aF ?_ | refine aL ?_ | refine aU (hnn := by simp only [go_sem, reduceCtorEq, List.length_map, nodesN_len, setR_len, imR_len, e4, hk2, hw]) ?_ | refine aM ?_ | refine aN ?_ | refine aR ?_); simp only [go_sem, reduceCtorEq, List.length_map, nodesN_len, setR_len, imR_len, e4, hk2, hw]) | refine iK ?_ | refine aI2 ?_ | (refine hK _ ?_; clear hK K) | clear hK K)
        refine hKL.to (i + 1) (by omega) (by omega) ?_
        simp only [imR_snocI]
        refine Fits.fold 2 k 3 213 (.orow 3 ((kidsN ss i p.id ++ [s.id]).map iA)) rfl rfl rfl (by simp [Obj.slot, refCell, setR_len, nodesN_len, hkl]) (by decide) ?_
        refine Fits.fit [(0, 0), (1, 1), (2, 2), (3, 3), (4, 4), (5, 5), (6, 6)] [4, 5, 6, 9, 51, 52, 53] 7 rfl rfl ?_
        have e9 := setR_fin (ns := nodesN ss i) (by rw [nodesN_len]; exact hkl) (.ref 200) (.ref 213) p.id p.pa (-1) (kidsN ss i p.id ++ [s.id])
        simp only [go_sem] at e9
        simp only [go_sem, e9, rnEs_atE, rnEs_msE, rnCss_ndC, g1, g2, g3, g4]
        exact Fits.rfl
    · have hget := atE_none hin
      by_cases h0 : s.pa = 0
      · have e3 : (s.pa == 0) = true := by simp [h0]
        obtain ⟨g1, g2, g3, g4⟩ := step_root hx h0
        repeat' (first | ((show W _ _ _ _); first | refine W.seq fun K hK => ?_ | refine W.block ?_ | ((first | refine wR ?_ | refine wD ?_ | refine W.skip ?_ | refine W.exit ?_ | refine W.ret (Post.ret ?_)); simp only [go_sem, reduceCtorEq, List.length_map, nodesN_len, imR_len, e1, e2, e3, hw, hnx, hget]) | refine wT ?_ | refine wF ?_ | refine wC (fun h => ?_) (fun h => ?_)) | ((show AX _ _ _ _ _); (first | refine aP ?_ | refine aF ?_ | refine aL ?_ | refine aU (hnn := by simp only [go_sem, reduceCtorEq, List.length_map, nodesN_len, imR_len, e1, e2, e3, hw, hnx, hget]) ?_ | refine aM ?_ | refine aN ?_ | refine aR ?_); simp only [go_sem, reduceCtorEq, List.length_map, nodesN_len, imR_len, e1, e2, e3, hw, hnx, hget]) | refine iK ?_ | refine aI2 ?_ | (refine hK _ ?_; clear hK K) | clear hK K)
        refine hKL.to (i + 1) (by omega) (by omega) (Fits.fit [(0, 0), (1, 1), (2, 2), (3, 3), (4, 4), (30, 5), (6, 6)] [4, 5, 6, 9, 51, 52, 53] 7 rfl rfl ?_)
        simp only [go_sem, rnEs_atE, rnEs_msE, rnCss_ndC, imR_snocI, g1, g2, g3, g4]
        exact Fits.rfl
      · have e3 : (s.pa == 0) = false := by simp [h0]
        obtain ⟨g1, g2, g3, g4⟩ := step_orph hx h0 hin
        have hput := msE_put (missN ss i) s.pa
        rcases msE_mget (.int .i64 s.pa) (missN ss i) with hq | hq
        · have := hq
          repeat' (first | ((show W _ _ _ _); first | refine W.seq fun K hK => ?_ | refine W.block ?_ | ((first | refine wR ?_ | refine wD ?_ | refine W.skip ?_ | refine W.exit ?_ | refine W.ret (Post.ret ?_)); simp only [go_sem, reduceCtorEq, List.length_map, nodesN_len, imR_len, e1, e2, e3, hw, hnx, hget, hput, hq]) | refine wT ?_ | refine wF ?_ | refine wC (fun h => ?_) (fun h => ?_)) | ((show AX _ _ _ _ _); (first | refine aP ?_ | refine aF ?_ | refine aL ?_ | refine aU (hnn := by simp only [go_sem, reduceCtorEq, List.length_map, nodesN_len, imR_len, e1, e2, e3, hw, hnx, hget, hput, hq]) ?_ | refine aM ?_ | refine aN ?_ | refine aR ?_); simp only [go_sem, reduceCtorEq, List.length_map, nodesN_len, imR_len, e1, e2, e3, hw, hnx, hget, hput, hq]) | refine iK ?_ | refine aI2 ?_ | (refine hK _ ?_; clear hK K) | clear hK K)
          refine hKL.to (i + 1) (by omega) (by omega) (Fits.fit [(0, 0), (1, 1), (2, 2), (3, 3), (4, 4), (5, 5), (32, 6)] [4, 5, 6, 9, 51, 52, 53] 7 rfl rfl ?_)
          simp only [go_sem, rnEs_atE, rnEs_msE, rnCss_ndC, imR_snocI, g1, g2, g3, g4]
          exact Fits.rfl
        · have := hq
          repeat' (first | ((show W _ _ _ _); first | refine W.seq fun K hK => ?_ | refine W.block ?_ | ((first | refine wR ?_ | refine wD ?_ | refine W.skip ?_ | refine W.exit ?_ | refine W.ret (Post.ret ?_)); simp only [go_sem, reduceCtorEq, List.length_map, nodesN_len, imR_len, e1, e2, e3, hw, hnx, hget, hput, hq]) | refine wT ?_ | refine wF ?_ | refine wC (fun h => ?_) (fun h => ?_)) | ((show AX _ _ _ _ _); (first | refine aP ?_ | refine aF ?_ | refine aL ?_ | refine aU (hnn := by simp only [go_sem, reduceCtorEq, List.length_map, nodesN_len, imR_len, e1, e2, e3, hw, hnx, hget, hput, hq]) ?_ | refine aM ?_ | refine aN ?_ | refine aR ?_); simp only [go_sem, reduceCtorEq, List.length_map, nodesN_len, imR_len, e1, e2, e3, hw, hnx, hget, hput, hq]) | refine iK ?_ | refine aI2 ?_ | (refine hK _ ?_; clear hK K) | clear hK K)
          refine hKL.to (i + 1) (by omega) (by omega) (Fits.fit [(0, 0), (1, 1), (2, 2), (3, 3), (4, 4), (5, 5), (32, 6)] [4, 5, 6, 9, 51, 52, 53] 7 rfl rfl ?_)
          simp only [go_sem, rnEs_atE, rnEs_msE, rnCss_ndC, imR_snocI, g1, g2, g3, g4]
          exact Fits.rfl
  obtain rfl : i = ss.length := by omega
  have e1 : decide ((ss.length : Int) < ss.length) = false := by simp
  clear hKL
  repeat' (first | ((show W _ _ _ _); first | refine W.stop (id := 21) ?_ | refine W.seq fun K hK => ?_ | refine W.block ?_ | ((first | refine wR ?_ | refine wD ?_ | refine W.skip ?_ | refine W.exit ?_ | refine W.ret (Post.ret ?_)); simp only [go_sem, reduceCtorEq, e1]) | refine wT ?_ | refine wF ?_ | refine wC (fun h => ?_) (fun h => ?_)) | ((show AX _ _ _ _ _); (first | refine aP ?_ | refine aF ?_ | refine aL ?_ | refine aU (hnn := by simp only [go_sem, reduceCtorEq, e1]) ?_ | refine aM ?_ | refine aN ?_ | refine aR ?_); simp only [go_sem, reduceCtorEq, e1]) | refine iK ?_ | refine aI2 ?_ | (refine hK _ ?_; clear hK K) | clear hK K)
  refine Stop.out ?_
  refine W.fits (s' := { t := [(4, .c (.ptr 0 0)), (5, .c (.ptr 1 0)), (6, .c (.mp 3)), (9, .c (.mp 4))], h := [(0, .box 50 [fl (.int .i64 0), fl (.slice none 0 0), fl (.slice none 0 0), fl (.slice none 0 0), fl (.slice none 0 0), fl (.slice none 0 0)]), (1, .box 50 [fl (.int .i64 t), .ref 2, .im (.sl 3 ((rootsN ss ss.length).map iA)), .im (.sl 3 ((orphN ss ss.length).map iA)), fl (.slice none 0 0), fl (.slice none 0 0)]), (2, .nrow 59 ((nodesD ss 0).map ndC)), (3, .map 3 (atE (idsOf ss))), (4, .map 3 (msE (missN ss ss.length)))], nx := 5, ex := [], nt := 163 }) ?_ ?_
  · refine Fits.freeze 5 rfl (unim_im _) ?_
    refine Fits.freeze 6 rfl (unim_im _) ?_
    refine Fits.seeO 1 5 rfl rfl ?_
    refine Fits.seeO 1 6 rfl rfl ?_
    refine Fits.fit [(0, 0), (1, 1), (2, 2), (3, 3), (4, 4)] [4, 5, 6, 9] 5 rfl rfl ?_
    simp only [go_sem, rnEs_atE, rnEs_msE, rnCss_ndC, nodesN_D]
    exact Fits.rfl
  have hconc := concat_c g62 [rootsN ss ss.length, orphN ss ss.length] (by
    have := lev_le hnd 0
    simp only [lev, topsF, List.length_append] at this
    simp; omega)
  simp only [listsT, List.map_cons, List.map_nil] at hconc
  have e0 : [rootsN ss ss.length, orphN ss ss.length].flatten = lev ss 0 := by simp [lev, topsF]
  rw [e0] at hconc
  repeat' (first | ((show W _ _ _ _); first | refine W.seq fun K hK => ?_ | refine W.block ?_ | ((first | refine wR ?_ | refine wD ?_ | refine W.skip ?_ | refine W.exit ?_ | refine W.ret (Post.ret ?_)); simp only [go_sem, reduceCtorEq]) | refine wT ?_ | refine wF ?_ | refine wC (fun h => ?_) (fun h => ?_)) | ((show AX _ _ _ _ _); (first | refine aP ?_ | refine aF ?_ | refine aL ?_ | refine aU ?_ | refine aM ?_ | refine aN ?_ | refine aR ?_); simp only [go_sem, reduceCtorEq]) | refine iK ?_ | refine aI2 ?_ | (refine hK _ ?_; clear hK K) | clear hK K)
  refine W.loopF (T := fun d : Nat => { t := [(4, .c (.ptr 0 0)), (5, .c (.ptr 1 0)), (6, .c (.mp 3)), (9, .c (.mp 4)), (14, intsT (lev ss d)), (15, ft (.int .i64 (d : Nat)))], h := [(0, .box 50 [fl (.int .i64 0), fl (.slice none 0 0), fl (.slice none 0 0), fl (.slice none 0 0), fl (.slice none 0 0), fl (.slice none 0 0)]), (1, .box 50 [fl (.int .i64 t), .ref 2, .im (.sl 3 ((rootsN ss ss.length).map iA)), .im (.sl 3 ((orphN ss ss.length).map iA)), fl (.slice none 0 0), fl (.slice none 0 0)]), (2, .nrow 59 ((nodesD ss d).map ndC)), (3, .map 3 (atE (idsOf ss))), (4, .map 3 (msE (missN ss ss.length)))], nx := 5, ex := [], nt := 163 })
    (Inv := fun d => d ≤ ss.length) (μ := fun d => ss.length - d) (x0 := 0) ?_ (Nat.zero_le _) ?_
  · refine Fits.fit [(0, 0), (1, 1), (2, 2), (3, 3), (4, 4)] [4, 5, 6, 9, 14, 15] 5 rfl rfl ?_
    simp only [go_sem, rnEs_atE, rnEs_msE, rnCss_ndC]
    exact Fits.rfl
  rintro d hdl KD hKD
  by_cases hne : lev ss d = []
  · have f1 : decide ((((lev ss d).length : Nat) : Int) > 0) = false := by simp [hne]
    clear hKD
    have hD := nodesD_end hne hdl
    have hml := missN_le ss ss.length
    have hkey := keys_c (missN ss ss.length)
    have hsrt := sorted_c c60 (missN ss ss.length) (by omega)
    repeat' (first | ((show W _ _ _ _); first | refine W.seq fun K hK => ?_ | refine W.block ?_ | ((first | refine wR ?_ | refine wD ?_ | refine W.skip ?_ | refine W.exit ?_ | refine W.ret (Post.ret ?_)); simp only [go_sem, reduceCtorEq, List.length_map, f1, hD, nodesD_len]) | refine wT ?_ | refine wF ?_ | refine wC (fun h => ?_) (fun h => ?_)) | ((show AX _ _ _ _ _); (first | refine aP ?_ | refine aF ?_ | refine aL ?_ | refine aU (hnn := by simp only [go_sem, reduceCtorEq, List.length_map, f1, hD, nodesD_len]) ?_ | refine aM ?_ | refine aN ?_ | refine aR ?_); simp only [go_sem, reduceCtorEq, List.length_map, f1, hD, nodesD_len]) | refine iK ?_ | refine aI2 ?_ | (refine hK _ ?_; clear hK K) | clear hK K)
    refine W.loopF (T := fun i : Nat => { t := [(4, .c (.ptr 0 0)), (5, .c (.ptr 1 0)), (9, .c (.mp 3)), (141, .c (.ref 2)), (142, ft (.int .i64 ss.length)), (143, ft (.int .i64 (i : Nat)))], h := [(0, .box 50 [fl (.int .i64 0), fl (.slice none 0 0), fl (.slice none 0 0), fl (.slice none 0 0), fl (.slice none 0 0), fl (.slice none 0 0)]), (1, .box 50 [fl (.int .i64 t), .ref 2, .im (.sl 3 ((rootsN ss ss.length).map iA)), .im (.sl 3 ((orphN ss ss.length).map iA)), .ref 4, fl (.slice none 0 0)]), (2, .nrow 59 ((nodesD ss ss.length).map ndC)), (3, .map 3 (msE (missN ss ss.length))), (4, .row 3 (imR ((cycN ss i).map iA)))], nx := 5, ex := [], nt := 163 })
      (Inv := fun i => i ≤ ss.length) (μ := fun i => ss.length - i) (x0 := 0) ?_ (Nat.zero_le _) ?_
    · refine Fits.adoptB 1 50 _ 4 99 3 rfl rfl rfl rfl tE3 rfl ?_
      refine Fits.fit [(0, 0), (1, 1), (2, 2), (4, 3), (99, 4)] [4, 5, 9, 141, 142, 143] 5 rfl rfl ?_
      simp only [go_sem, rnEs_atE, rnEs_msE, rnCss_ndC, cycN, List.take_zero, List.filter_nil, List.map_nil, imR_nil]
      exact Fits.rfl
    rintro i hi KI hKI
    by_cases hlt : i < ss.length
    · obtain ⟨s, hx, hm, hd⟩ := drop_at hlt
      have e1 : decide ((i : Int) < ss.length) = true := by simp; omega
      have e2 : decide (i < ss.length) = true := by simp; omega
      have hw := w64s i (by omega)
      have hnx := nodesD_at (d := ss.length) hx
      have hcl := cycN_le ss i
      have hstep : cycN ss (i + 1) = cycN ss i ++ if decide (depN ss ss.length s.id < 0) = true then [s.id] else [] := by
        unfold cycN
        rw [take_s hx, List.filter_append, List.map_append]
        cases h : decide (depN ss ss.length s.id < 0) <;> simp [h]
      cases hc : decide (depN ss ss.length s.id < 0) with
      | true =>
        rw [hc] at hstep
        repeat' (first | ((show W _ _ _ _); first | refine W.seq fun K hK => ?_ | refine W.block ?_ | ((first | refine wR ?_ | refine wD ?_ | refine W.skip ?_ | refine W.exit ?_ | refine W.ret (Post.ret ?_)); simp only [go_sem, reduceCtorEq, List.length_map, nodesD_len, imR_len, e1, e2, hw, hnx, hc]) | refine wT ?_ | refine wF ?_ | refine wC (fun h => ?_) (fun h => ?_)) | ((show AX _ _ _ _ _); (first | refine aP ?_ | refine aF ?_ | refine aL ?_ | refine aU (hnn := by simp only [go_sem, reduceCtorEq, List.length_map, nodesD_len, imR_len, e1, e2, hw, hnx, hc]) ?_ | refine aM ?_ | refine aN ?_ | refine aR ?_); simp only [go_sem, reduceCtorEq, List.length_map, nodesD_len, imR_len, e1, e2, hw, hnx, hc]) | refine iK ?_ | refine aI2 ?_ | (refine hK _ ?_; clear hK K) | clear hK K)
        refine hKI.to (i + 1) (by omega) (by omega) (Fits.fit [(0, 0), (1, 1), (2, 2), (3, 3), (18, 4)] [4, 5, 9, 141, 142, 143] 5 rfl rfl ?_)
        simp only [go_sem, hstep, rnEs_msE, rnCss_ndC, imR_snocI, if_true]
        exact Fits.rfl
      | false =>
        rw [hc] at hstep
        repeat' (first | ((show W _ _ _ _); first | refine W.seq fun K hK => ?_ | refine W.block ?_ | ((first | refine wR ?_ | refine wD ?_ | refine W.skip ?_ | refine W.exit ?_ | refine W.ret (Post.ret ?_)); simp only [go_sem, reduceCtorEq, List.length_map, nodesD_len, imR_len, e1, e2, hw, hnx, hc]) | refine wT ?_ | refine wF ?_ | refine wC (fun h => ?_) (fun h => ?_)) | ((show AX _ _ _ _ _); (first | refine aP ?_ | refine aF ?_ | refine aL ?_ | refine aU (hnn := by simp only [go_sem, reduceCtorEq, List.length_map, nodesD_len, imR_len, e1, e2, hw, hnx, hc]) ?_ | refine aM ?_ | refine aN ?_ | refine aR ?_); simp only [go_sem, reduceCtorEq, List.length_map, nodesD_len, imR_len, e1, e2, hw, hnx, hc]) | refine iK ?_ | refine aI2 ?_ | (refine hK _ ?_; clear hK K) | clear hK K)
        refine hKI.to (i + 1) (by omega) (by omega) (Fits.fit [(0, 0), (1, 1), (2, 2), (3, 3), (4, 4)] [4, 5, 9, 141, 142, 143] 5 rfl rfl ?_)
        simp only [go_sem, hstep, rnEs_msE, rnCss_ndC, Bool.false_eq_true, if_false, List.append_nil]
        exact Fits.rfl
    · obtain rfl : i = ss.length := by omega
      have e1 : decide ((ss.length : Int) < ss.length) = false := by simp
      clear hKI
      repeat' (first | ((show W _ _ _ _); first | refine W.stop (id := 39) ?_ | refine W.seq fun K hK => ?_ | refine W.block ?_ | ((first | refine wR ?_ | refine wD ?_ | refine W.skip ?_ | refine W.exit ?_ | refine W.ret (Post.ret ?_)); simp only [go_sem, reduceCtorEq, e1]) | refine wT ?_ | refine wF ?_ | refine wC (fun h => ?_) (fun h => ?_)) | ((show AX _ _ _ _ _); (first | refine aP ?_ | refine aF ?_ | refine aL ?_ | refine aU (hnn := by simp only [go_sem, reduceCtorEq, e1]) ?_ | refine aM ?_ | refine aN ?_ | refine aR ?_); simp only [go_sem, reduceCtorEq, e1]) | refine iK ?_ | refine aI2 ?_ | (refine hK _ ?_; clear hK K) | clear hK K)
      refine Stop.out ?_
      refine W.fits (Fits.freezeM 3 rfl (msE_close _) Fits.rfl) ?_
      simp only [go_sem]
      repeat' (first | ((show W _ _ _ _); first | refine W.seq fun K hK => ?_ | refine W.block ?_ | ((first | refine wR ?_ | refine wD ?_ | refine W.skip ?_ | refine W.exit ?_ | refine W.ret (Post.ret ?_)); simp only [go_sem, reduceCtorEq]) | refine wT ?_ | refine wF ?_ | refine wC (fun h => ?_) (fun h => ?_)) | ((show AX _ _ _ _ _); (first | refine aP ?_ | refine aF ?_ | refine aL ?_ | refine aU ?_ | refine aM ?_ | refine aN ?_ | refine aR ?_); simp only [go_sem, reduceCtorEq]) | refine iK ?_ | refine aI2 ?_ | (refine hK _ ?_; clear hK K) | clear hK K)
      refine AX.gcall [] rfl rfl (hsrt) (by simp only [go_sem, reduceCtorEq]) (by simp only [go_sem, reduceCtorEq]) rfl rfl (by simp only [go_sem, Obj.owns]) rfl (by simp only [go_sem, Obj.owns]) rfl rfl ?_
      simp only [go_sem, reduceCtorEq]
      repeat' (first | ((show W _ _ _ _); first | refine W.stop (id := 40) ?_ | refine W.seq fun K hK => ?_ | refine W.block ?_ | ((first | refine wR ?_ | refine wD ?_ | refine W.skip ?_ | refine W.exit ?_ | refine W.ret (Post.ret ?_)); simp only [go_sem, reduceCtorEq]) | refine wT ?_ | refine wF ?_ | refine wC (fun h => ?_) (fun h => ?_)) | ((show AX _ _ _ _ _); (first | refine aP ?_ | refine aF ?_ | refine aL ?_ | refine aU ?_ | refine aM ?_ | refine aN ?_ | refine aR ?_); simp only [go_sem, reduceCtorEq]) | refine iK ?_ | refine aI2 ?_ | (refine hK _ ?_; clear hK K) | clear hK K)
      refine Stop.out ?_
      refine W.fits (s' := { t := [(4, .c (.ptr 0 0)), (5, .c (.ptr 1 0))], h := [(0, .box 50 [fl (.int .i64 0), fl (.slice none 0 0), fl (.slice none 0 0), fl (.slice none 0 0), fl (.slice none 0 0), fl (.slice none 0 0)]), (1, .box 50 [fl (.int .i64 t), .im (.sl 59 ((nodesD ss ss.length).map ndA)), .im (.sl 3 ((rootsN ss ss.length).map iA)), .im (.sl 3 ((orphN ss ss.length).map iA)), .im (.sl 3 ((cycN ss ss.length).map iA)), .im (.sl 3 ((srtI (missN ss ss.length)).map iA))])], nx := 2, ex := [], nt := 163 }) ?_ ?_
      · refine Fits.freeze 4 rfl (unim_im _) ?_
        refine Fits.freeze 8 rfl (unim_im _) ?_
        refine Fits.freezeR 2 rfl (closeR_ndC _) ?_
        refine Fits.seeO 1 4 rfl rfl ?_
        refine Fits.seeO 1 8 rfl rfl ?_
        refine Fits.seeO 1 2 rfl rfl ?_
        refine Fits.fit [(0, 0), (1, 1)] [4, 5] 2 rfl rfl ?_
        simp only [go_sem]
        exact Fits.rfl
      repeat' (first | ((show W _ _ _ _); first | refine W.seq fun K hK => ?_ | refine W.block ?_ | ((first | refine wR ?_ | refine wD ?_ | refine W.skip ?_ | refine W.exit ?_ | refine W.ret (Post.ret ?_)); simp only [go_sem, reduceCtorEq, treeOf, trA]) | refine wT ?_ | refine wF ?_ | refine wC (fun h => ?_) (fun h => ?_)) | ((show AX _ _ _ _ _); (first | refine aP ?_ | refine aF ?_ | refine aL ?_ | refine aU (hnn := by simp only [go_sem, reduceCtorEq, treeOf, trA]) ?_ | refine aM ?_ | refine aN ?_ | refine aR ?_); simp only [go_sem, reduceCtorEq, treeOf, trA]) | refine iK ?_ | refine aI2 ?_ | (refine hK _ ?_; clear hK K) | clear hK K)
      rfl
  have hdlt := dep_lt hnd hne
  have hpos : 0 < (lev ss d).length := List.length_pos_iff.2 hne
  have hll := lev_le hnd d
  have f1 : decide (((lev ss d).length : Int) > 0) = true := by simp; omega
  have hwd := w64s d (by omega)
  repeat' (first | ((show W _ _ _ _); first | refine W.seq fun K hK => ?_ | refine W.block ?_ | ((first | refine wR ?_ | refine wD ?_ | refine W.skip ?_ | refine W.exit ?_ | refine W.ret (Post.ret ?_)); simp only [go_sem, reduceCtorEq, List.length_map, f1]) | refine wT ?_ | refine wF ?_ | refine wC (fun h => ?_) (fun h => ?_)) | ((show AX _ _ _ _ _); (first | refine aP ?_ | refine aF ?_ | refine aL ?_ | refine aU (hnn := by simp only [go_sem, reduceCtorEq, List.length_map, f1]) ?_ | refine aM ?_ | refine aN ?_ | refine aR ?_); simp only [go_sem, reduceCtorEq, List.length_map, f1]) | refine iK ?_ | refine aI2 ?_ | (refine hK _ ?_; clear hK K) | clear hK K)
  refine W.loopF (T := fun i : Nat => { t := [(4, .c (.ptr 0 0)), (5, .c (.ptr 1 0)), (6, .c (.mp 3)), (9, .c (.mp 4)), (15, ft (.int .i64 (d : Nat))), (16, .c (.ref 5)), (114, intsT (lev ss d)), (115, ft (.int .i64 (lev ss d).length)), (116, ft (.int .i64 (i : Nat)))], h := [(0, .box 50 [fl (.int .i64 0), fl (.slice none 0 0), fl (.slice none 0 0), fl (.slice none 0 0), fl (.slice none 0 0), fl (.slice none 0 0)]), (1, .box 50 [fl (.int .i64 t), .ref 2, .im (.sl 3 ((rootsN ss ss.length).map iA)), .im (.sl 3 ((orphN ss ss.length).map iA)), fl (.slice none 0 0), fl (.slice none 0 0)]), (2, .nrow 59 ((nodesI ss d i).map ndC)), (3, .map 3 (atE (idsOf ss))), (4, .map 3 (msE (missN ss ss.length))), (5, .row 3 (imR ((nextI ss d i).map iA)))], nx := 6, ex := [], nt := 163 })
    (Inv := fun i => i ≤ (lev ss d).length) (μ := fun i => (lev ss d).length - i) (x0 := 0) ?_ (Nat.zero_le _) ?_
  · refine Fits.adopt 16 99 3 rfl rfl rfl tE3 rfl ?_
    refine Fits.fit [(0, 0), (1, 1), (2, 2), (3, 3), (4, 4), (99, 5)] [4, 5, 6, 9, 15, 16, 114, 115, 116] 6 rfl rfl ?_
    simp only [go_sem, rnEs_atE, rnEs_msE, rnCss_ndC, nodesI_0, nextI, List.take_zero, List.flatMap_nil, List.map_nil, imR_nil]
    exact Fits.rfl
  rintro i hi KI hKI
  by_cases hlt : i < (lev ss d).length
  · obtain ⟨x, hx, hxm, _⟩ := drop_at hlt
    obtain ⟨k, hk⟩ := List.getElem?_of_mem (lev_ids d hxm)
    have hkl : k < ss.length := by have := (List.getElem?_eq_some_iff.1 hk).1; simpa [idsOf] using this
    obtain ⟨p, hp, hpm, _⟩ := drop_at hkl
    have hpx : p.id = x := by simpa [idsOf, hp] using hk
    have hget := atE_get hnd hk
    have hko := koI (hI p hpm).1
    rw [hpx] at hko
    obtain ⟨b, hkx⟩ := nodesI_at (d := d) (i := i) hp
    have g2 : decide (k < ss.length) = true := by simp; omega
    have hset := nodesI_set hnd hx hp hpx
    have g1 : decide ((i : Int) < ((lev ss d).length : Int)) = true := by simp; omega
    have hw := w64s i (by omega)
    have hnl := nextI_le hnd d i
    repeat' (first | ((show W _ _ _ _); first | refine W.stop (id := 30) ?_ | refine W.seq fun K hK => ?_ | refine W.block ?_ | ((first | refine wR ?_ | refine wD ?_ | refine W.skip ?_ | refine W.exit ?_ | refine W.ret (Post.ret ?_)); simp only [go_sem, reduceCtorEq, List.getElem?_map, hx, iA, g1, g2, hget, hkx, List.length_map, nodesI_len, hset]) | refine wT ?_ | refine wF ?_ | refine wC (fun h => ?_) (fun h => ?_)) | ((show AX _ _ _ _ _); (first | refine aP ?_ | refine aF ?_ | refine aL ?_ | refine aU (hnn := by simp only [go_sem, reduceCtorEq, List.getElem?_map, hx, iA, g1, g2, hget, hkx, List.length_map, nodesI_len, hset]) ?_ | refine aM ?_ | refine aN ?_ | refine aR ?_); simp only [go_sem, reduceCtorEq, List.getElem?_map, hx, iA, g1, g2, hget, hkx, List.length_map, nodesI_len, hset]) | refine iK ?_ | refine aI2 ?_ | (refine hK _ ?_; clear hK K) | clear hK K)
    refine Stop.out ?_
    obtain ⟨b2, hkx2⟩ := nodesI_at (d := d) (i := i + 1) hp
    obtain ⟨b3, hkn⟩ := nodesI_n (d := d) (i := i + 1) hp
    refine W.fits (Fits.unf 2 k 3 200 rfl rfl (by simp only [go_sem, hkx2]; rfl) rfl rfl Fits.rfl) ?_
    simp only [go_sem]
    have hk2 := setR_get 3 (.ref 200) ((nodesI ss d (i + 1)).map ndC) k k
    rw [if_pos rfl, hkx2] at hk2
    simp only [Option.map_some, List.set_cons_succ, List.set_cons_zero] at hk2
    have hns := nextI_step hx
    have hnl2 := nextI_le hnd d (i + 1)
    rw [hns, List.length_append] at hnl2
    rw [← hpx] at hns hnl2
    have hback := setR_back hkn (.ref 200)
    repeat' (first | ((show W _ _ _ _); first | refine W.seq fun K hK => ?_ | refine W.block ?_ | ((first | refine wR ?_ | refine wD ?_ | refine W.skip ?_ | refine W.exit ?_ | refine W.ret (Post.ret ?_)); simp only [go_sem, reduceCtorEq, List.getElem?_map, hx, iA, g1, g2, hget, hk2, List.length_map, nodesI_len, setR_len, imR_len, hw]) | refine wT ?_ | refine wF ?_ | refine wC (fun h => ?_) (fun h => ?_)) | ((show AX _ _ _ _ _); (first | refine aP ?_ | refine aF ?_ | refine aL ?_ | refine aU (hnn := by simp only [go_sem, reduceCtorEq, List.getElem?_map, hx, iA, g1, g2, hget, hk2, List.length_map, nodesI_len, setR_len, imR_len, hw]) ?_ | refine aM ?_ | refine aN ?_ | refine aR ?_); simp only [go_sem, reduceCtorEq, List.getElem?_map, hx, iA, g1, g2, hget, hk2, List.length_map, nodesI_len, setR_len, imR_len, hw]) | refine iK ?_ | refine aI2 ?_ | (refine hK _ ?_; clear hK K) | clear hK K)
    refine hKI.to (i + 1) (by omega) (by omega) ?_
    refine Fits.fold 2 k 3 200 (.orow 3 ((kidsF ss p.id).map iA)) rfl rfl rfl (by simp [Obj.slot, refCell, hk2]) (by decide) ?_
    refine Fits.fit [(0, 0), (1, 1), (2, 2), (3, 3), (4, 4), (210, 5)] [4, 5, 6, 9, 15, 16, 114, 115, 116] 6 rfl rfl ?_
    simp only [go_sem, hback, rnEs_atE, rnEs_msE, rnCss_ndC, hns, List.map_append, imR_app]
    exact Fits.rfl
  · obtain rfl : i = (lev ss d).length := by omega
    have g1 : decide (((lev ss d).length : Int) < ((lev ss d).length : Int)) = false := by simp
    clear hKI
    repeat' (first | ((show W _ _ _ _); first | refine W.seq fun K hK => ?_ | refine W.block ?_ | ((first | refine wR ?_ | refine wD ?_ | refine W.skip ?_ | refine W.exit ?_ | refine W.ret (Post.ret ?_)); simp only [go_sem, reduceCtorEq, g1, hwd]) | refine wT ?_ | refine wF ?_ | refine wC (fun h => ?_) (fun h => ?_)) | ((show AX _ _ _ _ _); (first | refine aP ?_ | refine aF ?_ | refine aL ?_ | refine aU (hnn := by simp only [go_sem, reduceCtorEq, g1, hwd]) ?_ | refine aM ?_ | refine aN ?_ | refine aR ?_); simp only [go_sem, reduceCtorEq, g1, hwd]) | refine iK ?_ | refine aI2 ?_ | (refine hK _ ?_; clear hK K) | clear hK K)
    refine hKD.to (d + 1) (by omega) (by omega) ?_
    refine Fits.freeze 5 rfl (unim_im _) ?_
    refine Fits.seeT 14 5 rfl (.inl rfl) rfl ?_
    refine Fits.fit [(0, 0), (1, 1), (2, 2), (3, 3), (4, 4)] [4, 5, 6, 9, 14, 15] 5 rfl rfl ?_
    simp only [go_sem, rnEs_atE, rnEs_msE, rnCss_ndC, nodesI_all, nextI_all]
    exact Fits.rfl
end Go.Proofs.YtegcmciglakicaaGreat
namespace Go.Proofs.YtegcmciglakicaaGreat
open Go.RowKit Go.Exe
set_option linter.unusedVariables false
set_option linter.unusedSimpArgs false
set_option maxHeartbeats 8000000
set_option maxRecDepth 100000
attribute [local irreducible] W AX Run RunD AStep AOp AOpX AStB AStH AStG Fits PCall GCall PostG Post Stop
abbrev ndsT (l : List Nd) : TV := .c (.im (.sl 59 (l.map ndA)))
theorem index1_c (n : Nd) (id : Int) : PCall Tryz.prog 68 [.g ((ndA n).map .im), ft (.int .i64 id)] (ft (.int .i64 (cmpI n.id id))) := by
  have c1 := cmpCompareI_c
  simp only [ndA, List.map]
  refine PCall.intro (nt := 9) (rs := [.tmp 4]) Tryz.func68 rfl ⟨by kernel_rfl, by kernel_rfl, by kernel_rfl⟩ (by simp) ?_
  rintro ⟨P, w0, ok0, may, np, pblk⟩ rfl rfl
  repeat' (first | ((show W _ _ _ _); first | refine W.seq fun K hK => ?_ | refine W.block ?_ | ((first | refine wR ?_ | refine wD ?_ | refine W.skip ?_ | refine W.exit ?_ | refine W.ret (Post.ret ?_)); simp only [go_sem, reduceCtorEq]) | refine wT ?_ | refine wF ?_ | refine wC (fun h => ?_) (fun h => ?_)) | ((show AX _ _ _ _ _); (first | refine aP ?_ | refine aF ?_ | refine aH ?_); simp only [go_sem, reduceCtorEq]) | refine iK ?_ | refine aI2 ?_ | (refine hK _ ?_; clear hK K) | clear hK K)
def fnd (l : List Nd) (id : Int) : Nat := (l.takeWhile fun n => decide (n.id < id)).length
def fndB (l : List Nd) (id : Int) : Bool := match l[fnd l id]? with | some n => n.id == id | none => false
theorem fnd_eq (id : Int) : ∀ (l : List Nd) (i : Nat), i ≤ l.length → (∀ a n, a < i → l[a]? = some n → n.id < id) → (∀ a n, i ≤ a → l[a]? = some n → ¬ n.id < id) → fnd l id = i
  | [], i, h, _, _ => by simp at h; subst h; rfl
  | x :: r, 0, _, _, h => by
    have := h 0 x (Nat.le_refl _) rfl
    simp [fnd, this]
  | x :: r, i + 1, hi, h1, h2 => by
    have hx := h1 0 x (Nat.succ_pos _) rfl
    have := fnd_eq id r i (by simpa using hi) (fun a n ha hn => h1 (a + 1) n (by omega) (by simpa using hn)) (fun a n ha hn => h2 (a + 1) n (by omega) (by simpa using hn))
    simp only [fnd] at this ⊢
    simp [hx, this]
theorem cmpI_lt (a b : Int) : (cmpI a b < 0) ↔ a < b := by unfold cmpI; split <;> (try split) <;> omega
theorem cmpI_eq (a b : Int) : (cmpI a b = 0) ↔ a = b := by unfold cmpI; split <;> (try split) <;> omega
theorem half_u (m : Nat) (h : m < 9223372036854775808) : IntKind.i64.wrap ((IntKind.u64.wrap (m : Int)).fdiv (2 ^ min (Int.toNat 1) 64)) = ((m / 2 : Nat) : Int) := by
  have e1 : IntKind.u64.wrap (m : Int) = (m : Int) := by rw [IntKind.wrap_u64]; omega
  have e2 : ((m : Int)).fdiv (2 ^ min (Int.toNat 1) 64) = ((m / 2 : Nat) : Int) := by
    rw [show (2 ^ min (Int.toNat 1) 64 : Int) = 2 from rfl, Int.fdiv_eq_ediv_of_nonneg _ (by decide)]
    omega
  rw [e1, e2, w64 (by omega) (by omega)]
theorem binSearch_c (l : List Nd) (id : Int) (hs : l.Pairwise fun a b => a.id < b.id) : PCall Tryz.prog 67 [ndsT l, ft (.int .i64 id), ft (.func (.func 68) #[] #[])] (.t [(false, [fl (.int .i64 (fnd l id : Nat))]), (false, [fl (.bool (fndB l id))])]) := by
  have c1 := index1_c
  refine PCall.intro (nt := 49) (rs := [.tmp 6, .tmp 7]) Tryz.func67 rfl ⟨by kernel_rfl, by kernel_rfl, by kernel_rfl⟩ (by simp) ?_
  rintro ⟨P, w0, ok0, may, np, pblk⟩ rfl rfl
  refine W.lenB 0 rfl tE59 fun _ hb => ?_
  rw [List.length_map] at hb
  repeat' (first | ((show W _ _ _ _); first | refine W.seq fun K hK => ?_ | refine W.block ?_ | ((first | refine wR ?_ | refine wD ?_ | refine W.skip ?_ | refine W.exit ?_ | refine W.ret (Post.ret ?_)); simp only [go_sem, reduceCtorEq, List.length_map]) | refine wT ?_ | refine wF ?_ | refine wC (fun h => ?_) (fun h => ?_)) | ((show AX _ _ _ _ _); (first | refine aP ?_ | refine aF ?_ | refine aH ?_); simp only [go_sem, reduceCtorEq, List.length_map]) | refine iK ?_ | refine aI2 ?_ | (refine hK _ ?_; clear hK K) | clear hK K)
  refine W.loopF (T := fun y : Nat × Nat => { t := [(0, ndsT l), (1, ft (.int .i64 id)), (2, ft (.func (.func 68) #[] #[])), (6, ft (.int .i64 0)), (7, ft (.bool false)), (8, ft (.int .i64 l.length)), (9, ft (.int .i64 (y.1 : Nat))), (10, ft (.int .i64 (y.2 : Nat)))], h := [], nx := 0, ex := [], nt := 49 })
    (Inv := fun y => y.1 ≤ y.2 ∧ y.2 ≤ l.length ∧ (∀ a n, a < y.1 → l[a]? = some n → n.id < id) ∧ (∀ a n, y.2 ≤ a → l[a]? = some n → ¬ n.id < id)) (μ := fun y => y.2 - y.1) (x0 := (0, l.length)) (Fits.fit [] [0, 1, 2, 6, 7, 8, 9, 10] 0 rfl rfl ?_) ⟨Nat.zero_le _, Nat.le_refl _, fun a n h => by omega, fun a n h h2 => by rw [List.getElem?_eq_none h] at h2; cases h2⟩ ?_
  · simp only [go_sem]
    exact Fits.rfl
  rintro ⟨i, j⟩ ⟨hij, hjl, hlo, hhi⟩ KL hKL
  simp only at hij hjl hlo hhi
  by_cases hlt : i < j
  · have e1 : decide ((i : Int) < (j : Int)) = true := by simp; omega
    have e2 : IntKind.i64.wrap ((i : Int) + (j : Int)) = ((i + j : Nat) : Int) := by rw [w64 (by omega) (by omega)]; simp
    obtain ⟨x, hx, _, _⟩ := drop_at (show (i + j) / 2 < l.length by omega)
    have e3 := half_u (i + j) (by omega)
    have e4 := w64s ((i + j) / 2) (by omega)
    have hc := index1_c x id
    simp only [ndA, List.map] at hc
    clear c1
    by_cases hlx : x.id < id
    · have e5 : decide (cmpI x.id id < 0) = true := by simpa [cmpI_lt] using hlx
      repeat' (first | ((show W _ _ _ _); first | refine W.seq fun K hK => ?_ | refine W.block ?_ | ((first | refine wR ?_ | refine wD ?_ | refine W.skip ?_ | refine W.exit ?_ | refine W.ret (Post.ret ?_)); simp only [go_sem, reduceCtorEq, e1, e2, e3, e4, List.getElem?_map, hx, ndA, e5]) | refine wT ?_ | refine wF ?_ | refine wC (fun h => ?_) (fun h => ?_)) | ((show AX _ _ _ _ _); (first | refine aP ?_ | refine aF ?_ | refine aH ?_); simp only [go_sem, reduceCtorEq, e1, e2, e3, e4, List.getElem?_map, hx, ndA, e5]) | refine iK ?_ | refine aI2 ?_ | (refine hK _ ?_; clear hK K) | clear hK K)
      refine hKL.to ((i + j) / 2 + 1, j) ⟨by simp only; omega, hjl, fun a n ha hn => ?_, hhi⟩ (by simp only; omega) (Fits.fit [] [0, 1, 2, 6, 7, 8, 9, 10] 0 rfl rfl ?_)
      · have hal : a < l.length := (List.getElem?_eq_some_iff.1 hn).1
        by_cases ha2 : a = (i + j) / 2
        · subst ha2; rw [hx] at hn; cases hn; exact hlx
        · have ha : a < (i + j) / 2 + 1 := ha
          have h1 := List.pairwise_iff_getElem.1 hs a ((i + j) / 2) hal (by omega) (by omega)
          rw [List.getElem?_eq_getElem hal] at hn
          rw [List.getElem?_eq_getElem (by omega)] at hx
          simp only [Option.some.injEq] at hn hx
          subst hn
          rw [← hx] at hlx
          omega
      · simp only [go_sem]
        exact Fits.rfl
    · have e5 : decide (cmpI x.id id < 0) = false := by simp [cmpI_lt]; omega
      repeat' (first | ((show W _ _ _ _); first | refine W.seq fun K hK => ?_ | refine W.block ?_ | ((first | refine wR ?_ | refine wD ?_ | refine W.skip ?_ | refine W.exit ?_ | refine W.ret (Post.ret ?_)); simp only [go_sem, reduceCtorEq, e1, e2, e3, e4, List.getElem?_map, hx, ndA, e5]) | refine wT ?_ | refine wF ?_ | refine wC (fun h => ?_) (fun h => ?_)) | ((show AX _ _ _ _ _); (first | refine aP ?_ | refine aF ?_ | refine aH ?_); simp only [go_sem, reduceCtorEq, e1, e2, e3, e4, List.getElem?_map, hx, ndA, e5]) | refine iK ?_ | refine aI2 ?_ | (refine hK _ ?_; clear hK K) | clear hK K)
      refine hKL.to (i, (i + j) / 2) ⟨by simp only; omega, by simp only; omega, hlo, fun a n ha hn => ?_⟩ (by simp only; omega) (Fits.fit [] [0, 1, 2, 6, 7, 8, 9, 10] 0 rfl rfl ?_)
      · have hal : a < l.length := (List.getElem?_eq_some_iff.1 hn).1
        by_cases ha2 : a = (i + j) / 2
        · subst ha2; rw [hx] at hn; cases hn; exact hlx
        · have ha : (i + j) / 2 ≤ a := ha
          have h1 := List.pairwise_iff_getElem.1 hs ((i + j) / 2) a (by omega) hal (by omega)
          rw [List.getElem?_eq_getElem hal] at hn
          rw [List.getElem?_eq_getElem (by omega)] at hx
          simp only [Option.some.injEq] at hn hx
          subst hn
          rw [← hx] at hlx
          omega
      · simp only [go_sem]
        exact Fits.rfl
  · obtain rfl : i = j := by omega
    have e1 : decide ((i : Int) < (i : Int)) = false := by simp
    have hfe := fnd_eq id l i hjl hlo hhi
    clear hKL
    by_cases hil : i < l.length
    · obtain ⟨x, hx, _, _⟩ := drop_at hil
      have e2 : decide ((i : Int) < (l.length : Int)) = true := by simp; omega
      have hc := index1_c x id
      simp only [ndA, List.map] at hc
      clear c1
      have hfb : fndB l id = (cmpI x.id id == 0) := by
        simp only [fndB, hfe, hx]
        by_cases h : x.id = id
        · have := (cmpI_eq x.id id).2 h; simp [h, this]; rw [h] at this; exact this
        · have h2 : ¬ cmpI x.id id = 0 := fun e => h ((cmpI_eq _ _).1 e)
          rw [beq_eq_false_iff_ne.2 h, beq_eq_false_iff_ne.2 h2]
      repeat' (first | ((show W _ _ _ _); first | refine W.seq fun K hK => ?_ | refine W.block ?_ | ((first | refine wR ?_ | refine wD ?_ | refine W.skip ?_ | refine W.exit ?_ | refine W.ret (Post.ret ?_)); simp only [go_sem, reduceCtorEq, e1, e2, List.getElem?_map, hx, ndA]) | refine wT ?_ | refine wF ?_ | refine wC (fun h => ?_) (fun h => ?_)) | ((show AX _ _ _ _ _); (first | refine aP ?_ | refine aF ?_ | refine aH ?_); simp only [go_sem, reduceCtorEq, e1, e2, List.getElem?_map, hx, ndA]) | refine iK ?_ | refine aI2 ?_ | (refine hK _ ?_; clear hK K) | clear hK K)
      rw [hfe, hfb]
    · have e2 : decide ((i : Int) < (l.length : Int)) = false := by simp; omega
      have hfb : fndB l id = false := by simp [fndB, hfe, List.getElem?_eq_none (show l.length ≤ i by omega)]
      repeat' (first | ((show W _ _ _ _); first | refine W.seq fun K hK => ?_ | refine W.block ?_ | ((first | refine wR ?_ | refine wD ?_ | refine W.skip ?_ | refine W.exit ?_ | refine W.ret (Post.ret ?_)); simp only [go_sem, reduceCtorEq, e1, e2]) | refine wT ?_ | refine wF ?_ | refine wC (fun h => ?_) (fun h => ?_)) | ((show AX _ _ _ _ _); (first | refine aP ?_ | refine aF ?_ | refine aH ?_); simp only [go_sem, reduceCtorEq, e1, e2]) | refine iK ?_ | refine aI2 ?_ | (refine hK _ ?_; clear hK K) | clear hK K)
      rw [hfe, hfb]
theorem index_c (t : Tr) (id : Int) (hs : t.nds.Pairwise fun a b => a.id < b.id) : PCall Tryz.prog 38 [trT t, ft (.int .i64 id)] (.t [(false, [fl (.int .i64 (fnd t.nds id : Nat))]), (false, [fl (.bool (fndB t.nds id))])]) := by
  have c1 := binSearch_c t.nds id hs
  simp only [trT, trA, List.map]
  refine PCall.intro (nt := 12) (rs := [.tmp 4, .tmp 5]) Tryz.func38 rfl ⟨by kernel_rfl, by kernel_rfl, by kernel_rfl⟩ (by simp) ?_
  rintro ⟨P, w0, ok0, may, np, pblk⟩ rfl rfl
  repeat' (first | ((show W _ _ _ _); first | refine W.seq fun K hK => ?_ | refine W.block ?_ | ((first | refine wR ?_ | refine wD ?_ | refine W.skip ?_ | refine W.exit ?_ | refine W.ret (Post.ret ?_)); simp only [go_sem, reduceCtorEq]) | refine wT ?_ | refine wF ?_ | refine wC (fun h => ?_) (fun h => ?_)) | ((show AX _ _ _ _ _); (first | refine aP ?_ | refine aF ?_ | refine aH ?_); simp only [go_sem, reduceCtorEq]) | refine iK ?_ | refine aI2 ?_ | (refine hK _ ?_; clear hK K) | clear hK K)
def ndZ : List Cell := [fl (.int .i64 0), fl (.int .i64 0), fl (.int .i64 0), fl (.slice none 0 0)]
def nodeT (l : List Nd) (id : Int) : TV := match l[fnd l id]?, fndB l id with
  | some n, true => .t [(true, (ndA n).map .im), (false, [fl (.bool true)])]
  | _, _ => .t [(true, ndZ), (false, [fl (.bool false)])]
theorem node_c (t : Tr) (id : Int) (hs : t.nds.Pairwise fun a b => a.id < b.id) : PCall Tryz.prog 16 [trT t, ft (.int .i64 id)] (nodeT t.nds id) := by
  have c1 := index_c t id hs
  have c2 := cloneI_c
  simp only [trT, trA, List.map] at c1
  simp only [trT, trA, List.map]
  refine PCall.intro (nt := 28) (rs := [.cell 4 59, .tmp 5]) Tryz.func16 rfl ⟨by kernel_rfl, by kernel_rfl, by kernel_rfl⟩ (by simp) ?_
  rintro ⟨P, w0, ok0, may, np, pblk⟩ rfl rfl
  cases hb : fndB t.nds id with
  | false =>
    rw [hb] at c1
    have e : nodeT t.nds id = .t [(true, ndZ), (false, [fl (.bool false)])] := by unfold nodeT; rw [hb]; split <;> simp_all
    rw [e]
    repeat' (first | ((show W _ _ _ _); first | refine W.seq fun K hK => ?_ | refine W.block ?_ | ((first | refine wR ?_ | refine wD ?_ | refine W.skip ?_ | refine W.exit ?_ | refine W.ret (Post.ret ?_)); simp only [go_sem, reduceCtorEq, ndZ]) | refine wT ?_ | refine wF ?_ | refine wC (fun h => ?_) (fun h => ?_)) | ((show AX _ _ _ _ _); (first | refine aP ?_ | refine aF ?_ | refine aH ?_); simp only [go_sem, reduceCtorEq, ndZ]) | refine iK ?_ | refine aI2 ?_ | (refine hK _ ?_; clear hK K) | clear hK K)
  | true =>
    obtain ⟨n, hn⟩ : ∃ n, t.nds[fnd t.nds id]? = some n := by
      unfold fndB at hb
      split at hb
      · exact ⟨_, by assumption⟩
      · cases hb
    rw [hb] at c1
    have e : nodeT t.nds id = .t [(true, (ndA n).map .im), (false, [fl (.bool true)])] := by unfold nodeT; rw [hb, hn]
    rw [e]
    repeat' (first | ((show W _ _ _ _); first | refine W.seq fun K hK => ?_ | refine W.block ?_ | ((first | refine wR ?_ | refine wD ?_ | refine W.skip ?_ | refine W.exit ?_ | refine W.ret (Post.ret ?_)); simp only [go_sem, reduceCtorEq, List.getElem?_map, hn, ndA]) | refine wT ?_ | refine wF ?_ | refine wC (fun h => ?_) (fun h => ?_)) | ((show AX _ _ _ _ _); (first | refine aP ?_ | refine aF ?_ | refine aH ?_); simp only [go_sem, reduceCtorEq, List.getElem?_map, hn, ndA]) | refine iK ?_ | refine aI2 ?_ | (refine hK _ ?_; clear hK K) | clear hK K)
end Go.Proofs.YtegcmciglakicaaGreat
namespace Go.Proofs.YtegcmciglakicaaGreat
open Go.RowKit Go.Exe
set_option linter.unusedVariables false
set_option linter.unusedSimpArgs false
set_option maxHeartbeats 8000000
set_option maxRecDepth 100000
def spE (ss : List Spn) : List (Value × Bool × List Cell) := ss.map fun s => (.int .i64 s.id, true, (spA s).map .im)
def spEA (ss : List Spn) : List (Value × Bool × List AV) := ss.map fun s => (.int .i64 s.id, true, spA s)
theorem rnCs_im (r : Ren) : ∀ l : List AV, rnCs r (l.map .im) = l.map .im
  | [] => rfl
  | x :: l => by simp only [List.map_cons, rnCs, rnC, rnCs_im r l]
theorem rnEs_spE (r : Ren) (ss : List Spn) : rnEs r (spE ss) = spE ss := rnEs_map r _ (fun _ => rnCs_im r _) _
theorem closeL_im : ∀ l : List AV, closeL (l.map .im) = some l
  | [] => rfl
  | x :: l => by simp [closeL, closeC, closeL_im l]
theorem spE_close (ss : List Spn) : closeE (spE ss) = some (spEA ss) := closeE_map _ _ (fun x => ⟨rfl, rfl, closeL_im _⟩) ss
theorem spE_keys (ss : List Spn) : (spE ss).map (·.1) = (idsOf ss).map (Value.int .i64) := by simp [spE, idsOf]
theorem spE_none {ss : List Spn} {x : Int} (h : x ∉ idsOf ss) : ∀ e ∈ spE ss, e.1 ≠ .int .i64 x := fun e he => by
  have : e.1 ∈ (spE ss).map (·.1) := List.mem_map_of_mem he
  rw [spE_keys] at this
  obtain ⟨y, hy, hxy⟩ := List.mem_map.1 this
  rw [← hxy]
  exact fun e => h (int_inj e ▸ hy)
/-- A builder: the tree, and the spans by their ids. -/
def bldA (t : Int) (ss : List Spn) : List AV := trA (treeOf t ss) ++ [.mp 3 (spEA ss)]
abbrev bldT (t : Int) (ss : List Spn) : TV := .g ((bldA t ss).map .im)
attribute [local irreducible] W AX Run RunD AStep AOp AOpX AStB AStH AStG Fits PCall GCall PostG Post Stop
theorem newBuilder_c (c141 : SortC Tryz.prog 141 14) (c60 : SortI Tryz.prog 60) (g62 : GrowC Tryz.prog 62 3 1 8) (l : List Spn) (t : Int) (hnd : (idsOf (ofS l t)).Nodup) (hI : ∀ s ∈ ofS l t, I64 s.id ∧ I64 s.pa) :
    PCall Tryz.prog 33 [spsT l, ft (.int .i64 t)] (bldT t (ofS l t)) := by
  have c13 := build_c c141 c60 g62 l t hnd hI
  have c20 := of_c c141 l t
  generalize hss : ofS l t = ss at *
  simp only [trT, bldT, bldA, trA, List.map, List.cons_append, List.nil_append] at c13 ⊢
  generalize treeOf t ss = tt at *
  refine PCall.intro (nt := 28) (rs := [.cell 4 99]) Tryz.func33 rfl ⟨by kernel_rfl, by kernel_rfl, by kernel_rfl⟩ (by simp) ?_
  rintro ⟨P, w0, ok0, may, np, pblk⟩ rfl rfl
  repeat' (first | ((show W _ _ _ _); first | refine W.seq fun K hK => ?_ | refine W.block ?_ | ((first | refine wR ?_ | refine wD ?_ | refine W.skip ?_ | refine W.exit ?_ | refine W.ret (Post.ret ?_)); simp only [go_sem, reduceCtorEq, List.length_map]) | refine wT ?_ | refine wF ?_ | refine wC (fun h => ?_) (fun h => ?_)) | ((show AX _ _ _ _ _); (first | refine aP ?_ | refine aF ?_ | refine aL ?_ | refine aU (hnn := by simp only [go_sem, reduceCtorEq, List.length_map]) ?_ | refine aM ?_ | refine aN ?_ | refine aR ?_); simp only [go_sem, reduceCtorEq, List.length_map]) | refine iK ?_ | refine aI2 ?_ | (refine hK _ ?_; clear hK K) | clear hK K)
  refine W.lenB 15 rfl tE35 fun _ hsm => ?_
  rw [List.length_map] at hsm
  refine W.loopF (T := fun i : Nat => { t := [(4, .c (.ptr 0 0)), (5, .c (.ptr 1 0)), (15, spsT ss), (16, ft (.int .i64 ss.length)), (17, ft (.int .i64 (i : Nat)))], h := [(0, .box 99 [fl (.int .i64 0), fl (.slice none 0 0), fl (.slice none 0 0), fl (.slice none 0 0), fl (.slice none 0 0), fl (.slice none 0 0), fl (.map none)]), (1, .box 99 [fl (.int .i64 tt.tr), .im (.sl 59 (tt.nds.map ndA)), .im (.sl 3 (tt.roots.map iA)), .im (.sl 3 (tt.orph.map iA)), .im (.sl 3 (tt.cyc.map iA)), .im (.sl 3 (tt.miss.map iA)), .mp 2]), (2, .map 3 (spE (ss.take i)))], nx := 3, ex := [], nt := 28 })
    (Inv := fun i => i ≤ ss.length) (μ := fun i => ss.length - i) (x0 := 0) ?_ (Nat.zero_le _) ?_
  · refine Fits.fit [(0, 0), (6, 1), (4, 2)] [4, 5, 15, 16, 17] 3 rfl rfl ?_
    simp only [go_sem, List.take_zero, spE, List.map_nil]
    exact Fits.rfl
  rintro i hi KL hKL
  by_cases hlt : i < ss.length
  · obtain ⟨s, hx, hm, hd⟩ := drop_at hlt
    have e1 : decide ((i : Int) < ss.length) = true := by simp; omega
    have hw := w64s i (by omega)
    have hko := koI (hI s hm).1
    have hids : idsOf (ss.take (i + 1)) = idsOf (ss.take i) ++ [s.id] := by rw [take_s hx]; simp [idsOf]
    have hnew : s.id ∉ idsOf (ss.take i) := by
      have : (idsOf (ss.take (i + 1))).Nodup := (hnd.sublist (List.Sublist.map _ (List.take_sublist _ _)))
      rw [hids, List.nodup_append] at this
      exact fun h => this.2.2 _ h _ (by simp) rfl
    have hput : mput (.int .i64 s.id) (true, (spA s).map .im) (spE (ss.take i)) = spE (ss.take (i + 1)) := by
      rw [mput_none (spE_none hnew), take_s hx]; simp [spE]
    have hget := mget_none (spE_none hnew)
    simp only [spA, List.map] at hput
    repeat' (first | ((show W _ _ _ _); first | refine W.seq fun K hK => ?_ | refine W.block ?_ | ((first | refine wR ?_ | refine wD ?_ | refine W.skip ?_ | refine W.exit ?_ | refine W.ret (Post.ret ?_)); simp only [go_sem, reduceCtorEq, List.getElem?_map, hx, spA, e1, hw, hput, hget]) | refine wT ?_ | refine wF ?_ | refine wC (fun h => ?_) (fun h => ?_)) | ((show AX _ _ _ _ _); (first | refine aP ?_ | refine aF ?_ | refine aL ?_ | refine aU (hnn := by simp only [go_sem, reduceCtorEq, List.getElem?_map, hx, spA, e1, hw, hput, hget]) ?_ | refine aM ?_ | refine aN ?_ | refine aR ?_); simp only [go_sem, reduceCtorEq, List.getElem?_map, hx, spA, e1, hw, hput, hget]) | refine iK ?_ | refine aI2 ?_ | (refine hK _ ?_; clear hK K) | clear hK K)
    refine hKL.to (i + 1) (by omega) (by omega) (Fits.fit [(0, 0), (1, 1), (2, 2)] [4, 5, 15, 16, 17] 3 rfl rfl ?_)
    simp only [go_sem, rnEs_spE]
    exact Fits.rfl
  obtain rfl : i = ss.length := by omega
  have e1 : decide ((ss.length : Int) < ss.length) = false := by simp
  clear hKL
  repeat' (first | ((show W _ _ _ _); first | refine W.stop (id := 7) ?_ | refine W.seq fun K hK => ?_ | refine W.block ?_ | ((first | refine wR ?_ | refine wD ?_ | refine W.skip ?_ | refine W.exit ?_ | refine W.ret (Post.ret ?_)); simp only [go_sem, reduceCtorEq, e1]) | refine wT ?_ | refine wF ?_ | refine wC (fun h => ?_) (fun h => ?_)) | ((show AX _ _ _ _ _); (first | refine aP ?_ | refine aF ?_ | refine aL ?_ | refine aU (hnn := by simp only [go_sem, reduceCtorEq, e1]) ?_ | refine aM ?_ | refine aN ?_ | refine aR ?_); simp only [go_sem, reduceCtorEq, e1]) | refine iK ?_ | refine aI2 ?_ | (refine hK _ ?_; clear hK K) | clear hK K)
  refine Stop.out ?_
  rw [List.take_length]
  refine W.fits (s' := { t := [(4, .c (.ptr 0 0)), (5, .c (.ptr 1 0))], h := [(0, .box 99 [fl (.int .i64 0), fl (.slice none 0 0), fl (.slice none 0 0), fl (.slice none 0 0), fl (.slice none 0 0), fl (.slice none 0 0), fl (.map none)]), (1, .box 99 [fl (.int .i64 tt.tr), .im (.sl 59 (tt.nds.map ndA)), .im (.sl 3 (tt.roots.map iA)), .im (.sl 3 (tt.orph.map iA)), .im (.sl 3 (tt.cyc.map iA)), .im (.sl 3 (tt.miss.map iA)), .im (.mp 3 (spEA ss))])], nx := 2, ex := [], nt := 28 }) ?_ ?_
  · refine Fits.freezeM 2 rfl (spE_close _) ?_
    refine Fits.seeO 1 2 rfl rfl ?_
    refine Fits.fit [(0, 0), (1, 1)] [4, 5] 2 rfl rfl ?_
    simp only [go_sem]
    exact Fits.rfl
  repeat' (first | ((show W _ _ _ _); first | refine W.seq fun K hK => ?_ | refine W.block ?_ | ((first | refine wR ?_ | refine wD ?_ | refine W.skip ?_ | refine W.exit ?_ | refine W.ret (Post.ret ?_)); simp only [go_sem, reduceCtorEq]) | refine wT ?_ | refine wF ?_ | refine wC (fun h => ?_) (fun h => ?_)) | ((show AX _ _ _ _ _); (first | refine aP ?_ | refine aF ?_ | refine aL ?_ | refine aU ?_ | refine aM ?_ | refine aN ?_ | refine aR ?_); simp only [go_sem, reduceCtorEq]) | refine iK ?_ | refine aI2 ?_ | (refine hK _ ?_; clear hK K) | clear hK K)
end Go.Proofs.YtegcmciglakicaaGreat
namespace Go.Proofs.YtegcmciglakicaaGreat
open Go.RowKit Go.Exe
set_option linter.unusedVariables false
set_option linter.unusedSimpArgs false
set_option maxHeartbeats 8000000
set_option maxRecDepth 100000
theorem f1_6 : F1 Tryz.prog 35 6 6 := ⟨_, _, rfl, rfl, rfl, fun w => by kernel_rfl⟩
theorem f1_8 : F1 Tryz.prog 35 8 8 := ⟨_, _, rfl, rfl, rfl, fun w => by kernel_rfl⟩
def spnOf (ss : List Spn) (id : Int) : Option Spn := ss.find? fun s => s.id == id
def shpF (ss : List Spn) : Nat → Int → Shp
  | 0, _ => .mk .empty .empty []
  | f + 1, id => match spnOf ss id with
    | some p => .mk p.sv p.op (srt ((kidsF ss id).map (shpF ss f)))
    | none => .mk .empty .empty []
theorem spnOf_at {ss : List Spn} {p : Spn} (hn : (idsOf ss).Nodup) (hp : p ∈ ss) : spnOf ss p.id = some p := by
  unfold spnOf
  cases h : ss.find? fun s => s.id == p.id with
  | none =>
    have := List.find?_eq_none.1 h p hp
    simp at this
  | some q =>
    have h1 := List.find?_some h
    have h2 := List.mem_of_find?_eq_some h
    simp at h1
    rw [id_uni hn h2 hp h1]
theorem nodesD_sorted {ss : List Spn} {d : Nat} (h : ss.Pairwise fun a b => a.id < b.id) : (nodesD ss d).Pairwise fun a b => a.id < b.id := by
  rw [nodesD, List.pairwise_map]; exact h
theorem nodup_sorted {ss : List Spn} (h : ss.Pairwise fun a b => a.id < b.id) : (idsOf ss).Nodup := by
  rw [idsOf, List.Nodup, List.pairwise_map]
  exact h.imp fun {a b} hab e => by omega
theorem fnd_at {l : List Nd} {k : Nat} {n : Nd} (hs : l.Pairwise fun a b => a.id < b.id) (hk : l[k]? = some n) : fnd l n.id = k := by
  obtain ⟨hkl, hke⟩ := List.getElem?_eq_some_iff.1 hk
  refine fnd_eq n.id l k (by omega) (fun a m ha hm => ?_) (fun a m ha hm => ?_)
  · obtain ⟨hal, hae⟩ := List.getElem?_eq_some_iff.1 hm
    have := List.pairwise_iff_getElem.1 hs a k hal hkl ha
    rw [hae, hke] at this; exact this
  · obtain ⟨hal, hae⟩ := List.getElem?_eq_some_iff.1 hm
    by_cases h : a = k
    · subst h; rw [hk] at hm; cases hm; omega
    · have := List.pairwise_iff_getElem.1 hs k a hkl hal (by omega)
      rw [hae, hke] at this; omega
theorem nodeT_at {l : List Nd} {k : Nat} {n : Nd} (hs : l.Pairwise fun a b => a.id < b.id) (hk : l[k]? = some n) : nodeT l n.id = .t [(true, (ndA n).map .im), (false, [fl (.bool true)])] := by
  have h := fnd_at hs hk
  have hb : fndB l n.id = true := by simp [fndB, h, hk]
  unfold nodeT
  rw [hb, h, hk]
theorem aget_sp {ss : List Spn} {p : Spn} (hn : (idsOf ss).Nodup) (hp : p ∈ ss) : aget (.int .i64 p.id) (spEA ss) = some (true, spA p) := by
  have key : ∀ l : List Spn, (idsOf l).Nodup → p ∈ l → aget (.int .i64 p.id) (spEA l) = some (true, spA p) := by
    intro l
    induction l with
    | nil => intro _ h; simp at h
    | cons x r ih =>
      intro hn hp
      simp only [spEA, List.map_cons, aget]
      by_cases h : x.id = p.id
      · obtain rfl := id_uni hn (by simp) hp h
        simp
      · rw [if_neg (fun e => h (int_inj e))]
        exact ih (List.nodup_cons.1 hn).2 ((List.mem_cons.1 hp).resolve_left fun e => h (by rw [e]))
  exact key ss hn hp
attribute [local irreducible] W AX Run RunD AStep AOp AOpX AStB AStH AStG Fits PCall GCall PostG Post Stop
theorem shape_c (c36 : SortC Tryz.prog 36 3) (t : Int) (ss : List Spn) (hs : ss.Pairwise fun a b => a.id < b.id) (hI : ∀ s ∈ ss, I64 s.id ∧ I64 s.pa) (hb : ss.length * 56 ≤ 140737488355328) :
    ∀ (f d : Nat) (id : Int), id ∈ lev ss d → ss.length - d ≤ f → PCall Tryz.prog 35 [bldT t ss, ft (.int .i64 id)] (shT (shpF ss f id))
  | 0, d, id, hid, hf => by
    have := dep_lt (nodup_sorted hs) (List.ne_nil_of_mem hid)
    omega
  | f + 1, d, id, hid, hf => by
    have hnd := nodup_sorted hs
    have ih : ∀ x ∈ kidsF ss id, PCall Tryz.prog 35 [bldT t ss, ft (.int .i64 x)] (shT (shpF ss f x)) := fun x hx => shape_c c36 t ss hs hI hb f (d + 1) x (List.mem_flatMap.2 ⟨id, hid, hx⟩) (by omega)
    obtain ⟨p, hpm, hpi⟩ := List.mem_map.1 (lev_ids d hid)
    subst hpi
    obtain ⟨k, hk⟩ := List.getElem?_of_mem hpm
    have hko := koI (hI p hpm).1
    have hget : mget (.int .i64 p.id) (froE (spEA ss)) = some (true, imL (spA p)) := by rw [mget_fro, aget_sp hnd hpm]; rfl
    simp only [spA, imL, List.map] at hget
    have hnk : (nodesD ss ss.length)[k]? = some ⟨p.id, p.pa, depN ss ss.length p.id, kidsF ss p.id⟩ := by simp [nodesD, hk]
    have hnode := nodeT_at (nodesD_sorted hs) hnk
    have cn := node_c (treeOf t ss) p.id (nodesD_sorted hs)
    rw [show (treeOf t ss).nds = nodesD ss ss.length from rfl] at cn
    rw [hnode] at cn
    have hsh : shpF ss (f + 1) p.id = .mk p.sv p.op (srt ((kidsF ss p.id).map (shpF ss f))) := by simp [shpF, spnOf_at hnd hpm]
    rw [hsh]
    simp only [bldT, bldA, trT, trA, List.map, List.cons_append, List.nil_append, ndA, shT_mk] at cn ih ⊢
    have hf6 := f1_6
    have hf8 := f1_8
    have hkl : (kidsF ss p.id).length ≤ ss.length := kidsN_le ss ss.length p.id
    generalize treeOf t ss = tt at *
    refine PCall.intro (nt := 48) (rs := [.cell 4 41]) Tryz.func35 rfl ⟨by kernel_rfl, by kernel_rfl, by kernel_rfl⟩ (by simp) ?_
    rintro ⟨P, w0, ok0, may, np, pblk⟩ rfl rfl
    repeat' (first | ((show W _ _ _ _); first | refine W.seq fun K hK => ?_ | refine W.block ?_ | ((first | refine wR ?_ | refine wD ?_ | refine W.skip ?_ | refine W.exit ?_ | refine W.ret (Post.ret ?_)); simp only [go_sem, reduceCtorEq, hget, List.length_map]) | refine wT ?_ | refine wF ?_ | refine wC (fun h => ?_) (fun h => ?_)) | ((show AX _ _ _ _ _); (first | refine aP ?_ | refine aF ?_ | refine aL ?_ | refine aU (hnn := by simp only [go_sem, reduceCtorEq, hget, List.length_map]) ?_ | refine aM ?_ | refine aN ?_ | refine aR ?_ | refine aD ?_); simp only [go_sem, reduceCtorEq, hget, List.length_map]) | refine iK ?_ | refine aI2 ?_ | (refine hK _ ?_; clear hK K) | clear hK K)
    generalize hkf : kidsF ss p.id = ks at *
    refine W.loopF (T := fun i : Nat => { t := [(2, .c (.ptr 0 0)), (4, .c (.ptr 1 0)), (5, .c (.ptr 2 0)), (29, intsT ks), (30, ft (.int .i64 ks.length)), (31, ft (.int .i64 (i : Nat)))], h := [(0, .box 99 [fl (.int .i64 tt.tr), .im (.sl 59 (tt.nds.map ndA)), .im (.sl 3 (tt.roots.map iA)), .im (.sl 3 (tt.orph.map iA)), .im (.sl 3 (tt.cyc.map iA)), .im (.sl 3 (tt.miss.map iA)), .im (.mp 3 (spEA ss))]), (1, .box 41 [fl (.string .empty), fl (.string .empty), fl (.slice none 0 0)]), (2, .box 41 [fl (.string p.sv), fl (.string p.op), .ref 3]), (3, .row 41 (imR (((ks.take i).map (shpF ss f)).map Shp.av)))], nx := 4, ex := [], nt := 48 })
      (Inv := fun i => i ≤ ks.length) (μ := fun i => ks.length - i) (x0 := 0) ?_ (Nat.zero_le _) ?_
    · refine Fits.adoptB 13 41 _ 2 99 41 rfl rfl rfl rfl tE41 rfl ?_
      refine Fits.fit [(0, 0), (1, 1), (13, 2), (99, 3)] [2, 4, 5, 29, 30, 31] 4 rfl rfl ?_
      simp only [go_sem, List.take_zero, List.map_nil, imR_nil]
      exact Fits.rfl
    rintro i hi KL hKL
    by_cases hlt : i < ks.length
    · obtain ⟨x, hx, hm, hd⟩ := drop_at hlt
      have e1 : decide ((i : Int) < ks.length) = true := by simp; omega
      have hw := w64s i (by omega)
      have hc := ih x hm
      clear ih
      obtain ⟨s', o', ks', he⟩ : ∃ s' o' ks', shpF ss f x = .mk s' o' ks' := by
        cases h : shpF ss f x with
        | mk a b c => exact ⟨a, b, c, rfl⟩
      have htk : (ks.take (i + 1)).map (shpF ss f) = (ks.take i).map (shpF ss f) ++ [.mk s' o' ks'] := by
        rw [List.take_add_one, hx]; simp [he]
      rw [he] at hc
      simp only [shT_mk] at hc
      repeat' (first | ((show W _ _ _ _); first | refine W.seq fun K hK => ?_ | refine W.block ?_ | ((first | refine wR ?_ | refine wD ?_ | refine W.skip ?_ | refine W.exit ?_ | refine W.ret (Post.ret ?_)); simp only [go_sem, reduceCtorEq, List.getElem?_map, hx, iA, e1, hw, List.length_map, imR_len, List.length_take]) | refine wT ?_ | refine wF ?_ | refine wC (fun h => ?_) (fun h => ?_)) | ((show AX _ _ _ _ _); (first | refine aP ?_ | refine aF ?_ | refine aL ?_ | refine aU (hnn := by simp only [go_sem, reduceCtorEq, List.getElem?_map, hx, iA, e1, hw, List.length_map, imR_len, List.length_take]) ?_ | refine aM ?_ | refine aN ?_ | refine aR ?_ | refine aD ?_); simp only [go_sem, reduceCtorEq, List.getElem?_map, hx, iA, e1, hw, List.length_map, imR_len, List.length_take]) | refine iK ?_ | refine aI2 ?_ | (refine hK _ ?_; clear hK K) | clear hK K)
      refine hKL.to (i + 1) (by omega) (by omega) (Fits.fit [(0, 0), (1, 1), (2, 2), (14, 3)] [2, 4, 5, 29, 30, 31] 4 rfl rfl ?_)
      simp only [go_sem, htk, List.map_append, List.map_cons, List.map_nil, imR_app, imR_one, imL, Shp.av]
      exact Fits.rfl
    · obtain rfl : i = ks.length := by omega
      have e1 : decide ((ks.length : Int) < ks.length) = false := by simp
      clear hKL ih
      repeat' (first | ((show W _ _ _ _); first | refine W.seq fun K hK => ?_ | refine W.block ?_ | ((first | refine wR ?_ | refine wD ?_ | refine W.skip ?_ | refine W.exit ?_ | refine W.ret (Post.ret ?_)); simp only [go_sem, reduceCtorEq, e1, List.take_length]) | refine wT ?_ | refine wF ?_ | refine wC (fun h => ?_) (fun h => ?_)) | ((show AX _ _ _ _ _); (first | refine aP ?_ | refine aF ?_ | refine aL ?_ | refine aU (hnn := by simp only [go_sem, reduceCtorEq, e1, List.take_length]) ?_ | refine aM ?_ | refine aN ?_ | refine aR ?_ | refine aD ?_); simp only [go_sem, reduceCtorEq, e1, List.take_length]) | refine iK ?_ | refine aI2 ?_ | (refine hK _ ?_; clear hK K) | clear hK K)
      refine AX.sort Shp.av rfl rfl rfl rfl rfl rfl tE41 (by decide) c36 (fun x _ y _ => all34 x y) (lwS.ord _) (srt_perm _) (fun zs' h1 h2 => srt_uni _ zs' h1 h2) rfl ?_
      simp only [go_sem]
      repeat' (first | ((show W _ _ _ _); first | refine W.seq fun K hK => ?_ | refine W.block ?_ | ((first | refine wR ?_ | refine wD ?_ | refine W.skip ?_ | refine W.exit ?_ | refine W.ret (Post.ret ?_)); simp only [go_sem, reduceCtorEq]) | refine wT ?_ | refine wF ?_ | refine wC (fun h => ?_) (fun h => ?_)) | ((show AX _ _ _ _ _); (first | refine aP ?_ | refine aF ?_ | refine aL ?_ | refine aU ?_ | refine aM ?_ | refine aN ?_ | refine aR ?_ | refine aD ?_); simp only [go_sem, reduceCtorEq]) | refine iK ?_ | refine aI2 ?_ | (refine hK _ ?_; clear hK K) | clear hK K)
      simp [avs_map]
end Go.Proofs.YtegcmciglakicaaGreat
namespace Go.Proofs.YtegcmciglakicaaGreat
open Go.RowKit Go.Exe
set_option linter.unusedVariables false
set_option linter.unusedSimpArgs false
set_option maxHeartbeats 8000000
set_option maxRecDepth 100000
theorem compT_len (p : Spn) : ∀ l, (compT p l).length ≤ l.length
  | [] => Nat.le_refl _
  | x :: r => by have := compT_len x r; simp only [compT]; split <;> simp <;> omega
theorem compG_len : ∀ l, (compG l).length ≤ l.length
  | [] => Nat.le_refl _
  | x :: r => by have := compT_len x r; simp only [compG, List.length_cons]; omega
theorem ofS_len (l : List Spn) (t : Int) : (ofS l t).length ≤ l.length := by
  have h1 := chosenN_len (isLast (setS (l.filter fun x => !(x.tr != t)))) (setS (l.filter fun x => !(x.tr != t))) (setS (l.filter fun x => !(x.tr != t))).length
  have h2 := compG_len (srtG Spn.cmp (l.filter fun x => !(x.tr != t)))
  have h3 := (srtG_perm Spn.cmp (l.filter fun x => !(x.tr != t))).length_eq
  have h4 := List.length_filter_le (fun x : Spn => !(x.tr != t)) l
  unfold ofS winS
  unfold setS at h1 ⊢
  omega
theorem depN_mem {ss : List Spn} {x : Int} : ∀ d, 0 ≤ depN ss d x → ∃ e, x ∈ lev ss e
  | 0, h => by simp [depN] at h
  | d + 1, h => by
    simp only [depN] at h
    split at h
    · exact ⟨d, by assumption⟩
    · exact depN_mem d h
def zShp : List Cell := [fl (.string .empty), fl (.string .empty), fl (.slice none 0 0)]
attribute [local irreducible] W AX Run RunD AStep AOp AOpX AStB AStH AStG Fits PCall GCall PostG Post Stop
theorem of_c1 (c141 : SortC Tryz.prog 141 14) (c60 : SortI Tryz.prog 60) (g62 : GrowC Tryz.prog 62 3 1 8) (c36 : SortC Tryz.prog 36 3) (l : List Spn) (r : Rf) (ss : List Spn) (hss : ofS l r.1 = ss) (hs : ss.Pairwise fun a b => a.id < b.id) (hI : ∀ s ∈ ss, I64 s.id ∧ I64 s.pa) (p : Spn) (hp : p ∈ ss) (hpr : p.id = r.2) :
    PCall Tryz.prog 14 [spsT l, .g ((refA r).map .im)] (if depN ss ss.length r.2 < 0 then .t [(true, zShp), (false, [fl (.int .i64 35)])] else .t [(true, (shpF ss ss.length r.2).av.map .im), (false, [fl (.int .i64 0)])]) := by
  have hnd := nodup_sorted hs
  have cb := newBuilder_c c141 c60 g62 l r.1 (by rw [hss]; exact hnd) (by rw [hss]; exact hI)
  rw [hss] at cb
  obtain ⟨k, hk⟩ := List.getElem?_of_mem hp
  have hnk : (nodesD ss ss.length)[k]? = some ⟨p.id, p.pa, depN ss ss.length p.id, kidsF ss p.id⟩ := by simp [nodesD, hk]
  have hnode := nodeT_at (nodesD_sorted hs) hnk
  have cn := node_c (treeOf r.1 ss) p.id (nodesD_sorted hs)
  rw [show (treeOf r.1 ss).nds = nodesD ss ss.length from rfl] at cn
  rw [hnode, hpr] at cn
  by_cases hdep : depN ss ss.length r.2 < 0
  · rw [if_pos hdep]
    have e1 : decide (depN ss ss.length r.2 < 0) = true := by simpa using hdep
    simp only [bldT, bldA, trT, trA, List.map, List.cons_append, List.nil_append, ndA, refA] at cn cb ⊢
    generalize treeOf r.1 ss = tt at *
    refine PCall.intro (nt := 34) (rs := [.cell 4 41, .tmp 5]) Tryz.func14 rfl ⟨by kernel_rfl, by kernel_rfl, by kernel_rfl⟩ (by simp) ?_
    rintro ⟨P, w0, ok0, may, np, pblk⟩ rfl rfl
    repeat' (first | ((show W _ _ _ _); first | refine W.seq fun K hK => ?_ | refine W.block ?_ | ((first | refine wR ?_ | refine wD ?_ | refine W.skip ?_ | refine W.exit ?_ | refine W.ret (Post.ret ?_)); simp only [go_sem, reduceCtorEq, e1, zShp]) | refine wT ?_ | refine wF ?_ | refine wC (fun h => ?_) (fun h => ?_)) | ((show AX _ _ _ _ _); (first | refine aP ?_ | refine aF ?_ | refine aL ?_ | refine aU (hnn := by simp only [go_sem, reduceCtorEq, e1, zShp]) ?_ | refine aM ?_ | refine aN ?_ | refine aR ?_ | refine aD ?_); simp only [go_sem, reduceCtorEq, e1, zShp]) | refine iK ?_ | refine aI2 ?_ | (refine hK _ ?_; clear hK K) | clear hK K)
  · rw [if_neg hdep]
    have e1 : decide (depN ss ss.length r.2 < 0) = false := by simpa using hdep
    obtain ⟨d, hd⟩ := depN_mem ss.length (by omega : 0 ≤ depN ss ss.length r.2)
    obtain ⟨s', o', ks', he⟩ : ∃ s' o' ks', shpF ss ss.length r.2 = .mk s' o' ks' := by
      cases h : shpF ss ss.length r.2 with
      | mk a b c => exact ⟨a, b, c, rfl⟩
    have hsl := ofS_len l r.1
    rw [hss] at hsl
    refine PCall.intro (nt := 34) (rs := [.cell 4 41, .tmp 5]) Tryz.func14 rfl ⟨by kernel_rfl, by kernel_rfl, by kernel_rfl⟩ (by simp) ?_
    rintro ⟨P, w0, ok0, may, np, pblk⟩ rfl rfl
    refine W.lenB 0 rfl tE35 fun _ hb => ?_
    rw [List.length_map] at hb
    have cs := shape_c c36 r.1 ss hs hI (by omega) ss.length d r.2 hd (by omega)
    rw [he] at cs
    simp only [bldT, bldA, trT, trA, List.map, List.cons_append, List.nil_append, ndA, refA, shT_mk] at cn cb cs ⊢
    generalize treeOf r.1 ss = tt at *
    repeat' (first | ((show W _ _ _ _); first | refine W.seq fun K hK => ?_ | refine W.block ?_ | ((first | refine wR ?_ | refine wD ?_ | refine W.skip ?_ | refine W.exit ?_ | refine W.ret (Post.ret ?_)); simp only [go_sem, reduceCtorEq, e1, he, Shp.av]) | refine wT ?_ | refine wF ?_ | refine wC (fun h => ?_) (fun h => ?_)) | ((show AX _ _ _ _ _); (first | refine aP ?_ | refine aF ?_ | refine aL ?_ | refine aU (hnn := by simp only [go_sem, reduceCtorEq, e1, he, Shp.av]) ?_ | refine aM ?_ | refine aN ?_ | refine aR ?_ | refine aD ?_); simp only [go_sem, reduceCtorEq, e1, he, Shp.av]) | refine iK ?_ | refine aI2 ?_ | (refine hK _ ?_; clear hK K) | clear hK K)
end Go.Proofs.YtegcmciglakicaaGreat
namespace Go.Proofs.YtegcmciglakicaaGreat
open Go.RowKit Go.Exe
set_option linter.unusedVariables false
set_option linter.unusedSimpArgs false
set_option maxHeartbeats 8000000
set_option maxRecDepth 100000
attribute [local irreducible] W AX Run RunD AStep AOp AOpX AStB AStH AStG Fits PCall GCall PostG Post Stop
theorem trace_c (c141 : SortC Tryz.prog 141 14) (c60 : SortI Tryz.prog 60) (g62 : GrowC Tryz.prog 62 3 1 8) (c36 : SortC Tryz.prog 36 3) (l : List Spn) (t : Int) (ss : List Spn) (hss : ofS l t = ss) (hs : ss.Pairwise fun a b => a.id < b.id) (hI : ∀ s ∈ ss, I64 s.id ∧ I64 s.pa) :
    PCall Tryz.prog 12 [spsT l, ft (.int .i64 t)] (shT (.mk .empty .empty (srt ((lev ss 0).map (shpF ss ss.length))))) := by
  have hnd := nodup_sorted hs
  have cb := newBuilder_c c141 c60 g62 l t (by rw [hss]; exact hnd) (by rw [hss]; exact hI)
  rw [hss] at cb
  have hsl := ofS_len l t
  rw [hss] at hsl
  have hll := lev_le hnd 0
  refine PCall.intro (nt := 38) (rs := [.cell 4 41]) Tryz.func12 rfl ⟨by kernel_rfl, by kernel_rfl, by kernel_rfl⟩ (by simp) ?_
  rintro ⟨P, w0, ok0, may, np, pblk⟩ rfl rfl
  refine W.lenB 0 rfl tE35 fun _ hb => ?_
  rw [List.length_map] at hb
  have ih : ∀ x ∈ lev ss 0, PCall Tryz.prog 35 [bldT t ss, ft (.int .i64 x)] (shT (shpF ss ss.length x)) := fun x hx => shape_c c36 t ss hs hI (by omega) ss.length 0 x hx (by omega)
  have hcc := concat_c g62 [rootsN ss ss.length, orphN ss ss.length] (by
    simp only [lev, topsF, List.length_append] at hll
    simp; omega)
  have e0 : [rootsN ss ss.length, orphN ss ss.length].flatten = lev ss 0 := by simp [lev, topsF]
  rw [e0] at hcc
  simp only [bldT, bldA, trA, treeOf, listsT, List.map, List.cons_append, List.nil_append, shT_mk] at cb ih hcc ⊢
  generalize hks : lev ss 0 = ks at *
  repeat' (first | ((show W _ _ _ _); first | refine W.seq fun K hK => ?_ | refine W.block ?_ | ((first | refine wR ?_ | refine wD ?_ | refine W.skip ?_ | refine W.exit ?_ | refine W.ret (Post.ret ?_)); simp only [go_sem, reduceCtorEq, List.length_map]) | refine wT ?_ | refine wF ?_ | refine wC (fun h => ?_) (fun h => ?_)) | ((show AX _ _ _ _ _); (first | refine aP ?_ | refine aF ?_ | refine aL ?_ | refine aU (hnn := by simp only [go_sem, reduceCtorEq, List.length_map]) ?_ | refine aM ?_ | refine aN ?_ | refine aR ?_ | refine aD ?_); simp only [go_sem, reduceCtorEq, List.length_map]) | refine iK ?_ | refine aI2 ?_ | (refine hK _ ?_; clear hK K) | clear hK K)
  refine W.loopF (T := fun i : Nat => { t := [(4, .c (.ptr 0 0)), (5, .c (.ptr 1 0)), (6, .c (.ptr 2 0)), (19, intsT ks), (20, ft (.int .i64 ks.length)), (21, ft (.int .i64 (i : Nat)))], h := [(0, .box 41 [fl (.string .empty), fl (.string .empty), fl (.slice none 0 0)]), (1, .box 99 [fl (.int .i64 t), .im (.sl 59 ((nodesD ss ss.length).map ndA)), .im (.sl 3 ((rootsN ss ss.length).map iA)), .im (.sl 3 ((orphN ss ss.length).map iA)), .im (.sl 3 ((cycN ss ss.length).map iA)), .im (.sl 3 ((srtI (missN ss ss.length)).map iA)), .im (.mp 3 (spEA ss))]), (2, .box 41 [fl (.string .empty), fl (.string .empty), .ref 3]), (3, .row 41 (imR (((ks.take i).map (shpF ss ss.length)).map Shp.av)))], nx := 4, ex := [], nt := 38 })
    (Inv := fun i => i ≤ ks.length) (μ := fun i => ks.length - i) (x0 := 0) ?_ (Nat.zero_le _) ?_
  · refine Fits.adoptB 6 41 _ 2 99 41 rfl rfl rfl rfl tE41 rfl ?_
    refine Fits.fit [(0, 0), (4, 1), (6, 2), (99, 3)] [4, 5, 6, 19, 20, 21] 4 rfl rfl ?_
    simp only [go_sem, List.take_zero, List.map_nil, imR_nil]
    exact Fits.rfl
  rintro i hi KL hKL
  by_cases hlt : i < ks.length
  · obtain ⟨x, hx, hm, hd⟩ := drop_at hlt
    have e1 : decide ((i : Int) < ks.length) = true := by simp; omega
    have hw := w64s i (by omega)
    have hc := ih x hm
    clear ih
    obtain ⟨s', o', ks', he⟩ : ∃ s' o' ks', shpF ss ss.length x = .mk s' o' ks' := by
      cases h : shpF ss ss.length x with
      | mk a b c => exact ⟨a, b, c, rfl⟩
    have htk : (ks.take (i + 1)).map (shpF ss ss.length) = (ks.take i).map (shpF ss ss.length) ++ [.mk s' o' ks'] := by
      rw [List.take_add_one, hx]; simp [he]
    rw [he] at hc
    simp only [shT_mk] at hc
    repeat' (first | ((show W _ _ _ _); first | refine W.seq fun K hK => ?_ | refine W.block ?_ | ((first | refine wR ?_ | refine wD ?_ | refine W.skip ?_ | refine W.exit ?_ | refine W.ret (Post.ret ?_)); simp only [go_sem, reduceCtorEq, List.getElem?_map, hx, iA, e1, hw, List.length_map, imR_len, List.length_take]) | refine wT ?_ | refine wF ?_ | refine wC (fun h => ?_) (fun h => ?_)) | ((show AX _ _ _ _ _); (first | refine aP ?_ | refine aF ?_ | refine aL ?_ | refine aU (hnn := by simp only [go_sem, reduceCtorEq, List.getElem?_map, hx, iA, e1, hw, List.length_map, imR_len, List.length_take]) ?_ | refine aM ?_ | refine aN ?_ | refine aR ?_ | refine aD ?_); simp only [go_sem, reduceCtorEq, List.getElem?_map, hx, iA, e1, hw, List.length_map, imR_len, List.length_take]) | refine iK ?_ | refine aI2 ?_ | (refine hK _ ?_; clear hK K) | clear hK K)
    refine hKL.to (i + 1) (by omega) (by omega) (Fits.fit [(0, 0), (1, 1), (2, 2), (14, 3)] [4, 5, 6, 19, 20, 21] 4 rfl rfl ?_)
    simp only [go_sem, htk, List.map_append, List.map_cons, List.map_nil, imR_app, imR_one, imL, Shp.av]
    exact Fits.rfl
  · obtain rfl : i = ks.length := by omega
    have e1 : decide ((ks.length : Int) < ks.length) = false := by simp
    clear hKL ih
    repeat' (first | ((show W _ _ _ _); first | refine W.seq fun K hK => ?_ | refine W.block ?_ | ((first | refine wR ?_ | refine wD ?_ | refine W.skip ?_ | refine W.exit ?_ | refine W.ret (Post.ret ?_)); simp only [go_sem, reduceCtorEq, e1, List.take_length]) | refine wT ?_ | refine wF ?_ | refine wC (fun h => ?_) (fun h => ?_)) | ((show AX _ _ _ _ _); (first | refine aP ?_ | refine aF ?_ | refine aL ?_ | refine aU (hnn := by simp only [go_sem, reduceCtorEq, e1, List.take_length]) ?_ | refine aM ?_ | refine aN ?_ | refine aR ?_ | refine aD ?_); simp only [go_sem, reduceCtorEq, e1, List.take_length]) | refine iK ?_ | refine aI2 ?_ | (refine hK _ ?_; clear hK K) | clear hK K)
    refine AX.sort Shp.av rfl rfl rfl rfl rfl rfl tE41 (by decide) c36 (fun x _ y _ => all34 x y) (lwS.ord _) (srt_perm _) (fun zs' h1 h2 => srt_uni _ zs' h1 h2) rfl ?_
    simp only [go_sem]
    repeat' (first | ((show W _ _ _ _); first | refine W.seq fun K hK => ?_ | refine W.block ?_ | ((first | refine wR ?_ | refine wD ?_ | refine W.skip ?_ | refine W.exit ?_ | refine W.ret (Post.ret ?_)); simp only [go_sem, reduceCtorEq]) | refine wT ?_ | refine wF ?_ | refine wC (fun h => ?_) (fun h => ?_)) | ((show AX _ _ _ _ _); (first | refine aP ?_ | refine aF ?_ | refine aL ?_ | refine aU ?_ | refine aM ?_ | refine aN ?_ | refine aR ?_ | refine aD ?_); simp only [go_sem, reduceCtorEq]) | refine iK ?_ | refine aI2 ?_ | (refine hK _ ?_; clear hK K) | clear hK K)
    simp [avs_map]
end Go.Proofs.YtegcmciglakicaaGreat
namespace Go.Proofs.YtegcmciglakicaaGreat
open Go.RowKit Go.Exe
set_option linter.unusedVariables false
set_option linter.unusedSimpArgs false
set_option maxHeartbeats 8000000
set_option maxRecDepth 100000
def ofM (ss : List Spn) : Nat → Int → Shp
  | 0, _ => .mk .empty .empty []
  | f + 1, id => match spnOf ss id with
    | some p => (Shp.mk p.sv p.op ((kidsF ss id).map (ofM ss f))).canon
    | none => .mk .empty .empty []
attribute [local irreducible] W AX Run RunD AStep AOp AOpX AStB AStH AStG Fits PCall GCall PostG Post Stop
theorem ofM_c (t : Int) (l ss : List Spn) (hs : ss.Pairwise fun a b => a.id < b.id) (hb : ss.length * 56 ≤ 140737488355328) (hwin : ∀ p ∈ ss, bestS l (t, p.id) = some p) :
    ∀ (f d : Nat) (id : Int), id ∈ lev ss d → ss.length - d ≤ f → PCall Tryz.prog 17 [spsT l, trT (treeOf t ss), ft (.int .i64 id)] (shT (ofM ss f id))
  | 0, d, id, hid, hf => by
    have := dep_lt (nodup_sorted hs) (List.ne_nil_of_mem hid)
    omega
  | f + 1, d, id, hid, hf => by
    have hnd := nodup_sorted hs
    have ih : ∀ x ∈ kidsF ss id, PCall Tryz.prog 17 [spsT l, trT (treeOf t ss), ft (.int .i64 x)] (shT (ofM ss f x)) := fun x hx => ofM_c t l ss hs hb hwin f (d + 1) x (List.mem_flatMap.2 ⟨id, hid, hx⟩) (by omega)
    obtain ⟨p, hpm, hpi⟩ := List.mem_map.1 (lev_ids d hid)
    subst hpi
    obtain ⟨k, hk⟩ := List.getElem?_of_mem hpm
    have hnk : (nodesD ss ss.length)[k]? = some ⟨p.id, p.pa, depN ss ss.length p.id, kidsF ss p.id⟩ := by simp [nodesD, hk]
    have hnode := nodeT_at (nodesD_sorted hs) hnk
    have cn := node_c (treeOf t ss) p.id (nodesD_sorted hs)
    rw [show (treeOf t ss).nds = nodesD ss ss.length from rfl] at cn
    rw [hnode] at cn
    have cw := winner_c l (t, p.id)
    rw [hwin p hpm] at cw
    have hsh : ofM ss (f + 1) p.id = (Shp.mk p.sv p.op ((kidsF ss p.id).map (ofM ss f))).canon := by simp [ofM, spnOf_at hnd hpm]
    rw [hsh]
    have c40 := all13 (.mk p.sv p.op ((kidsF ss p.id).map (ofM ss f)))
    rw [mcanon_eq] at c40
    obtain ⟨s1, o1, ks1, he1⟩ : ∃ s' o' ks', (Shp.mk p.sv p.op ((kidsF ss p.id).map (ofM ss f))).canon = .mk s' o' ks' := by
      cases h : (Shp.mk p.sv p.op ((kidsF ss p.id).map (ofM ss f))).canon with
      | mk a b c => exact ⟨a, b, c, rfl⟩
    rw [he1] at c40 ⊢
    simp only [trT, trA, treeOf, winT, List.map, ndA, spA, refA, shT_mk, avs_map] at cn cw c40 ih ⊢
    have hkl : (kidsF ss p.id).length ≤ ss.length := kidsN_le ss ss.length p.id
    generalize hkf : kidsF ss p.id = ks at *
    refine PCall.intro (nt := 55) (rs := [.cell 6 41]) Tryz.func17 rfl ⟨by kernel_rfl, by kernel_rfl, by kernel_rfl⟩ (by simp) ?_
    rintro ⟨P, w0, ok0, may, np, pblk⟩ rfl rfl
    repeat' (first | ((show W _ _ _ _); first | refine W.seq fun K hK => ?_ | refine W.block ?_ | ((first | refine wR ?_ | refine wD ?_ | refine W.skip ?_ | refine W.exit ?_ | refine W.ret (Post.ret ?_)); simp only [go_sem, reduceCtorEq, List.length_map]) | refine wT ?_ | refine wF ?_ | refine wC (fun h => ?_) (fun h => ?_)) | ((show AX _ _ _ _ _); (first | refine aP ?_ | refine aF ?_ | refine aL ?_ | refine aU (hnn := by simp only [go_sem, reduceCtorEq, List.length_map]) ?_ | refine aM ?_ | refine aN ?_ | refine aR ?_ | refine aD ?_); simp only [go_sem, reduceCtorEq, List.length_map]) | refine iK ?_ | refine aI2 ?_ | (refine hK _ ?_; clear hK K) | clear hK K)
    refine W.loopF (T := fun i : Nat => { t := [(0, spsT l), (4, .c (.ptr 0 0)), (6, .c (.ptr 1 0)), (9, .c (.ptr 2 0)), (11, .c (.ptr 3 0)), (12, ft (.int .i64 (i : Nat)))], h := [(0, .box 50 [fl (.int .i64 t), .im (.sl 59 ((nodesD ss ss.length).map ndA)), .im (.sl 3 ((rootsN ss ss.length).map iA)), .im (.sl 3 ((orphN ss ss.length).map iA)), .im (.sl 3 ((cycN ss ss.length).map iA)), .im (.sl 3 ((srtI (missN ss ss.length)).map iA))]), (1, .box 41 [fl (.string .empty), fl (.string .empty), fl (.slice none 0 0)]), (2, .box 59 [fl (.int .i64 p.id), fl (.int .i64 p.pa), fl (.int .i64 (depN ss ss.length p.id)), .im (.sl 3 (ks.map iA))]), (3, .box 41 [fl (.string p.sv), fl (.string p.op), .ref 4]), (4, .row 41 (imR (((ks.take i).map (ofM ss f)).map Shp.av)))], nx := 5, ex := [], nt := 55 })
      (Inv := fun i => i ≤ ks.length) (μ := fun i => ks.length - i) (x0 := 0) ?_ (Nat.zero_le _) ?_
    · refine Fits.adoptB 28 41 _ 2 99 41 rfl rfl rfl rfl tE41 rfl ?_
      refine Fits.fit [(0, 0), (1, 1), (20, 2), (28, 3), (99, 4)] [0, 4, 6, 9, 11, 12] 5 rfl rfl ?_
      simp only [go_sem, List.take_zero, List.map_nil, imR_nil]
      exact Fits.rfl
    rintro i hi KL hKL
    by_cases hlt : i < ks.length
    · obtain ⟨x, hx, hm, hd⟩ := drop_at hlt
      have e1 : decide ((i : Int) < ks.length) = true := by simp; omega
      have hw := w64s i (by omega)
      have hc := ih x hm
      clear ih
      obtain ⟨s', o', ks', he⟩ : ∃ s' o' ks', ofM ss f x = .mk s' o' ks' := by
        cases h : ofM ss f x with
        | mk a b c => exact ⟨a, b, c, rfl⟩
      have htk : (ks.take (i + 1)).map (ofM ss f) = (ks.take i).map (ofM ss f) ++ [.mk s' o' ks'] := by
        rw [List.take_add_one, hx]; simp [he]
      rw [he] at hc
      simp only [shT_mk] at hc
      clear c40
      repeat' (first | ((show W _ _ _ _); first | refine W.seq fun K hK => ?_ | refine W.block ?_ | ((first | refine wR ?_ | refine wD ?_ | refine W.skip ?_ | refine W.exit ?_ | refine W.ret (Post.ret ?_)); simp only [go_sem, reduceCtorEq, List.getElem?_map, hx, iA, e1, hw, List.length_map, imR_len, List.length_take]) | refine wT ?_ | refine wF ?_ | refine wC (fun h => ?_) (fun h => ?_)) | ((show AX _ _ _ _ _); (first | refine aP ?_ | refine aF ?_ | refine aL ?_ | refine aU (hnn := by simp only [go_sem, reduceCtorEq, List.getElem?_map, hx, iA, e1, hw, List.length_map, imR_len, List.length_take]) ?_ | refine aM ?_ | refine aN ?_ | refine aR ?_ | refine aD ?_); simp only [go_sem, reduceCtorEq, List.getElem?_map, hx, iA, e1, hw, List.length_map, imR_len, List.length_take]) | refine iK ?_ | refine aI2 ?_ | (refine hK _ ?_; clear hK K) | clear hK K)
      refine hKL.to (i + 1) (by omega) (by omega) (Fits.fit [(0, 0), (1, 1), (2, 2), (3, 3), (21, 4)] [0, 4, 6, 9, 11, 12] 5 rfl rfl ?_)
      simp only [go_sem, htk, List.map_append, List.map_cons, List.map_nil, imR_app, imR_one, imL, Shp.av]
      exact Fits.rfl
    · obtain rfl : i = ks.length := by omega
      have e1 : decide ((ks.length : Int) < ks.length) = false := by simp
      clear hKL ih
      repeat' (first | ((show W _ _ _ _); first | refine W.seq fun K hK => ?_ | refine W.block ?_ | ((first | refine wR ?_ | refine wD ?_ | refine W.skip ?_ | refine W.exit ?_ | refine W.ret (Post.ret ?_)); simp only [go_sem, reduceCtorEq, e1, List.length_map, List.take_length]) | refine wT ?_ | refine wF ?_ | refine wC (fun h => ?_) (fun h => ?_)) | ((show AX _ _ _ _ _); (first | refine aP ?_ | refine aF ?_ | refine aL ?_ | refine aU (hnn := by simp only [go_sem, reduceCtorEq, e1, List.length_map, List.take_length]) ?_ | refine aM ?_ | refine aN ?_ | refine aR ?_ | refine aD ?_); simp only [go_sem, reduceCtorEq, e1, List.length_map, List.take_length]) | refine iK ?_ | refine aI2 ?_ | (refine hK _ ?_; clear hK K) | clear hK K)
theorem traceM_c (c141 : SortC Tryz.prog 141 14) (c60 : SortI Tryz.prog 60) (g62 : GrowC Tryz.prog 62 3 1 8) (t : Int) (l ss : List Spn) (hss : ofS l t = ss) (hs : ss.Pairwise fun a b => a.id < b.id) (hI : ∀ s ∈ ss, I64 s.id ∧ I64 s.pa) (hwin : ∀ p ∈ ss, bestS l (t, p.id) = some p) :
    PCall Tryz.prog 18 [spsT l, ft (.int .i64 t)] (shT (Shp.mk .empty .empty ((lev ss 0).map (ofM ss ss.length))).canon) := by
  have hnd := nodup_sorted hs
  have cb := build_c c141 c60 g62 l t (by rw [hss]; exact hnd) (by rw [hss]; exact hI)
  rw [hss] at cb
  have hsl := ofS_len l t
  rw [hss] at hsl
  have hll := lev_le hnd 0
  refine PCall.intro (nt := 39) (rs := [.cell 4 41]) Tryz.func18 rfl ⟨by kernel_rfl, by kernel_rfl, by kernel_rfl⟩ (by simp) ?_
  rintro ⟨P, w0, ok0, may, np, pblk⟩ rfl rfl
  refine W.lenB 0 rfl tE35 fun _ hb => ?_
  rw [List.length_map] at hb
  have ih : ∀ x ∈ lev ss 0, PCall Tryz.prog 17 [spsT l, trT (treeOf t ss), ft (.int .i64 x)] (shT (ofM ss ss.length x)) := fun x hx => ofM_c t l ss hs (by omega) hwin ss.length 0 x hx (by omega)
  have e0 : rootsN ss ss.length ++ orphN ss ss.length = lev ss 0 := by simp [lev, topsF]
  have c40 := all13 (.mk .empty .empty ((lev ss 0).map (ofM ss ss.length)))
  rw [mcanon_eq] at c40
  obtain ⟨s1, o1, ks1, he1⟩ : ∃ s' o' ks', (Shp.mk .empty .empty ((lev ss 0).map (ofM ss ss.length))).canon = .mk s' o' ks' := by
    cases h : (Shp.mk .empty .empty ((lev ss 0).map (ofM ss ss.length))).canon with
    | mk a b c => exact ⟨a, b, c, rfl⟩
  rw [he1] at c40 ⊢
  have hrl : (rootsN ss ss.length).length + (orphN ss ss.length).length ≤ ss.length := by
    rw [← List.length_append, e0]; exact hll
  have hrm : ∀ a b : List Int, imR (a.map iA) ++ imR (b.map iA) = imR ((a ++ b).map iA) := fun a b => by simp [imR]
  simp only [trT, trA, treeOf, List.map, shT_mk, avs_map] at cb c40 ih ⊢
  repeat' (first | ((show W _ _ _ _); first | refine W.seq fun K hK => ?_ | refine W.block ?_ | ((first | refine wR ?_ | refine wD ?_ | refine W.skip ?_ | refine W.exit ?_ | refine W.ret (Post.ret ?_)); simp only [go_sem, reduceCtorEq, List.length_map, imR_len, List.length_append]) | refine wT ?_ | refine wF ?_ | refine wC (fun h => ?_) (fun h => ?_)) | ((show AX _ _ _ _ _); (first | refine aP ?_ | refine aF ?_ | refine aL ?_ | refine aU (hnn := by simp only [go_sem, reduceCtorEq, List.length_map, imR_len, List.length_append]) ?_ | refine aM ?_ | refine aN ?_ | refine aR ?_ | refine aD ?_); simp only [go_sem, reduceCtorEq, List.length_map, imR_len, List.length_append]) | refine iK ?_ | refine aI2 ?_ | (refine hK _ ?_; clear hK K) | clear hK K)
  rw [hrm, e0]
  generalize hks : lev ss 0 = ks at *
  refine W.loopF (T := fun i : Nat => { t := [(0, spsT l), (4, .c (.ptr 0 0)), (5, .c (.ptr 1 0)), (6, .c (.ptr 2 0)), (7, intsT ks), (8, ft (.int .i64 (i : Nat)))], h := [(0, .box 41 [fl (.string .empty), fl (.string .empty), fl (.slice none 0 0)]), (1, .box 50 [fl (.int .i64 t), .im (.sl 59 ((nodesD ss ss.length).map ndA)), .im (.sl 3 ((rootsN ss ss.length).map iA)), .im (.sl 3 ((orphN ss ss.length).map iA)), .im (.sl 3 ((cycN ss ss.length).map iA)), .im (.sl 3 ((srtI (missN ss ss.length)).map iA))]), (2, .box 41 [fl (.string .empty), fl (.string .empty), .ref 3]), (3, .row 41 (imR (((ks.take i).map (ofM ss ss.length)).map Shp.av)))], nx := 4, ex := [], nt := 39 })
    (Inv := fun i => i ≤ ks.length) (μ := fun i => ks.length - i) (x0 := 0) ?_ (Nat.zero_le _) ?_
  · refine Fits.freeze 13 rfl (unim_im _) ?_
    refine Fits.seeT 7 13 rfl (.inl rfl) rfl ?_
    refine Fits.adoptB 6 41 _ 2 99 41 rfl rfl rfl rfl tE41 rfl ?_
    refine Fits.fit [(0, 0), (4, 1), (6, 2), (99, 3)] [0, 4, 5, 6, 7, 8] 4 rfl rfl ?_
    simp only [go_sem, List.take_zero, List.map_nil, imR_nil]
    exact Fits.rfl
  rintro i hi KL hKL
  by_cases hlt : i < ks.length
  · obtain ⟨x, hx, hm, hd⟩ := drop_at hlt
    have e1 : decide ((i : Int) < ks.length) = true := by simp; omega
    have hw := w64s i (by omega)
    have hc := ih x hm
    clear ih
    obtain ⟨s', o', ks', he⟩ : ∃ s' o' ks', ofM ss ss.length x = .mk s' o' ks' := by
      cases h : ofM ss ss.length x with
      | mk a b c => exact ⟨a, b, c, rfl⟩
    have htk : (ks.take (i + 1)).map (ofM ss ss.length) = (ks.take i).map (ofM ss ss.length) ++ [.mk s' o' ks'] := by
      rw [List.take_add_one, hx]; simp [he]
    rw [he] at hc
    simp only [shT_mk] at hc
    clear c40
    repeat' (first | ((show W _ _ _ _); first | refine W.seq fun K hK => ?_ | refine W.block ?_ | ((first | refine wR ?_ | refine wD ?_ | refine W.skip ?_ | refine W.exit ?_ | refine W.ret (Post.ret ?_)); simp only [go_sem, reduceCtorEq, List.getElem?_map, hx, iA, e1, hw, List.length_map, imR_len, List.length_take]) | refine wT ?_ | refine wF ?_ | refine wC (fun h => ?_) (fun h => ?_)) | ((show AX _ _ _ _ _); (first | refine aP ?_ | refine aF ?_ | refine aL ?_ | refine aU (hnn := by simp only [go_sem, reduceCtorEq, List.getElem?_map, hx, iA, e1, hw, List.length_map, imR_len, List.length_take]) ?_ | refine aM ?_ | refine aN ?_ | refine aR ?_ | refine aD ?_); simp only [go_sem, reduceCtorEq, List.getElem?_map, hx, iA, e1, hw, List.length_map, imR_len, List.length_take]) | refine iK ?_ | refine aI2 ?_ | (refine hK _ ?_; clear hK K) | clear hK K)
    refine hKL.to (i + 1) (by omega) (by omega) (Fits.fit [(0, 0), (1, 1), (2, 2), (18, 3)] [0, 4, 5, 6, 7, 8] 4 rfl rfl ?_)
    simp only [go_sem, htk, List.map_append, List.map_cons, List.map_nil, imR_app, imR_one, imL, Shp.av]
    exact Fits.rfl
  · obtain rfl : i = ks.length := by omega
    have e1 : decide ((ks.length : Int) < ks.length) = false := by simp
    clear hKL ih
    repeat' (first | ((show W _ _ _ _); first | refine W.seq fun K hK => ?_ | refine W.block ?_ | ((first | refine wR ?_ | refine wD ?_ | refine W.skip ?_ | refine W.exit ?_ | refine W.ret (Post.ret ?_)); simp only [go_sem, reduceCtorEq, e1, List.length_map, List.take_length]) | refine wT ?_ | refine wF ?_ | refine wC (fun h => ?_) (fun h => ?_)) | ((show AX _ _ _ _ _); (first | refine aP ?_ | refine aF ?_ | refine aL ?_ | refine aU (hnn := by simp only [go_sem, reduceCtorEq, e1, List.length_map, List.take_length]) ?_ | refine aM ?_ | refine aN ?_ | refine aR ?_ | refine aD ?_); simp only [go_sem, reduceCtorEq, e1, List.length_map, List.take_length]) | refine iK ?_ | refine aI2 ?_ | (refine hK _ ?_; clear hK K) | clear hK K)
end Go.Proofs.YtegcmciglakicaaGreat
