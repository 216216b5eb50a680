import Derived.Test.YtegcmciglakicaaGreatM8
import Derived.Test.YtegcmciglakicaaGreatM5
namespace Go.Proofs.YtegcmciglakicaaGreat
open Go.RowKit Go.Exe
set_option linter.unusedVariables false
set_option linter.unusedSimpArgs false
set_option maxRecDepth 100000
/-! ### a number's bytes lead back to it -/
def nval (l : List UInt8) : Nat := l.foldl (fun a b => a * 256 + b.toNat) 0
theorem lt_nsize : ∀ (k m : Nat), m < 256 ^ k → m < 256 ^ nsize m
  | 0, m, h => by simp at h; subst h; rw [nsize_0]; decide
  | k + 1, m, h => by
    by_cases h0 : m = 0
    · subst h0; rw [nsize_0]; decide
    · rw [nsize_s (by omega), Nat.add_comm, Nat.pow_succ]
      have := lt_nsize k (m / 256) (by rw [Nat.pow_succ] at h; omega)
      omega
def nbytes (m : Nat) : List UInt8 := (List.range (nsize m)).map fun j => UInt8.ofNat (nbyte m (nsize m - 1 - j) false)
theorem numB_pos {n : Int} (h : 0 ≤ n) : numB n = UInt8.ofNat (128 + nsize n.natAbs) :: nbytes n.natAbs := by
  have : decide (n < 0) = false := by simp; omega
  simp only [numB, this, nhead, nbytes]
  rfl
theorem nbytes_len (m : Nat) : (nbytes m).length = nsize m := by simp [nbytes]
theorem nval_take {m : Nat} (h : m < 18446744073709551616) : ∀ i, i ≤ nsize m → nval ((nbytes m).take i) = m / 256 ^ (nsize m - i)
  | 0, _ => by
    simp only [List.take_zero, nval, List.foldl_nil, Nat.sub_zero]
    rw [Nat.div_eq_of_lt (lt_nsize 8 m (by simpa using h))]
  | i + 1, hi => by
    have ih := nval_take h i (by omega)
    have hg : (nbytes m)[i]? = some (UInt8.ofNat (nbyte m (nsize m - 1 - i) false)) := by
      simp [nbytes, List.getElem?_range (show i < nsize m by omega)]
    rw [List.take_add_one, hg]
    simp only [Option.toList_some, nval, List.foldl_append, List.foldl_cons, List.foldl_nil]
    simp only [nval] at ih
    rw [ih, UInt8.toNat_ofNat_of_lt' (by have := nbyte_lt m (nsize m - 1 - i) false; simpa [UInt8.size] using this)]
    simp only [nbyte, Bool.false_eq_true, if_false]
    have e1 : nsize m - i = (nsize m - 1 - i) + 1 := by omega
    have e2 : nsize m - (i + 1) = nsize m - 1 - i := by omega
    rw [e1, e2, Nat.pow_succ, ← Nat.div_div_eq_div_mul]
    omega
theorem nval_nbytes {m : Nat} (h : m < 18446744073709551616) : nval (nbytes m) = m := by
  have := nval_take h (nsize m) (Nat.le_refl _)
  rw [← nbytes_len, List.take_length] at this
  simpa [nbytes_len] using this
theorem numB_app {a b : Int} (ha : 0 ≤ a) (ha2 : a < 9223372036854775808) (hb : 0 ≤ b) (hb2 : b < 9223372036854775808) {r s : List UInt8} (h : numB a ++ r = numB b ++ s) : a = b ∧ r = s := by
  rw [numB_pos ha, numB_pos hb] at h
  simp only [List.cons_append, List.cons.injEq] at h
  obtain ⟨h1, h2⟩ := h
  have s1 := nsize_le 8 a.natAbs (by omega)
  have s2 := nsize_le 8 b.natAbs (by omega)
  have h3 : nsize a.natAbs = nsize b.natAbs := by
    have := congrArg UInt8.toNat h1
    rw [UInt8.toNat_ofNat_of_lt' (by simp [UInt8.size]; omega), UInt8.toNat_ofNat_of_lt' (by simp [UInt8.size]; omega)] at this
    omega
  obtain ⟨h4, h5⟩ := List.append_inj h2 (by rw [nbytes_len, nbytes_len, h3])
  have h6 := congrArg nval h4
  rw [nval_nbytes (by omega), nval_nbytes (by omega)] at h6
  exact ⟨by omega, h5⟩
theorem textB_app {a b : ByteArray} (ha : a.size < 9223372036854775808) (hb : b.size < 9223372036854775808) {r s : List UInt8} (h : textB a ++ r = textB b ++ s) : a = b ∧ r = s := by
  simp only [textB, List.append_assoc] at h
  obtain ⟨h1, h2⟩ := numB_app (by omega) (by omega) (by omega) (by omega) h
  have h3 : a.size = b.size := by omega
  obtain ⟨h4, h5⟩ := List.append_inj h2 (by simpa using h3)
  refine ⟨?_, h5⟩
  cases a with
  | mk a =>
    cases b with
    | mk b => simp at h4; rw [h4]
/-! ### different shapes have different keys -/
mutual
theorem keyB_app : ∀ (x y : Shp) {r q : List UInt8}, x.keyW < 9223372036854775808 → y.keyW < 9223372036854775808 → x.keyB ++ r = y.keyB ++ q → x = y ∧ r = q
  | .mk s o ks, .mk s' o' ks', r, q, hx, hy, h => by
    simp only [Shp.keyW] at hx hy
    simp only [Shp.keyB, List.append_assoc] at h
    have l1 := keysW_len ks
    have l2 := keysW_len ks'
    obtain ⟨e1, h1⟩ := textB_app (by omega) (by omega) h
    obtain ⟨e2, h2⟩ := textB_app (by omega) (by omega) h1
    obtain ⟨e3, h3⟩ := numB_app (a := (ks.length : Int)) (b := (ks'.length : Int)) (by omega) (by omega) (by omega) (by omega) h2
    obtain ⟨e4, h4⟩ := keysB_app2 ks ks' (by omega) (by omega) (by omega) h3
    exact ⟨by rw [e1, e2, e4], h4⟩
theorem keysB_app2 : ∀ (l m : List Shp) {r q : List UInt8}, l.length = m.length → keysW l < 9223372036854775808 → keysW m < 9223372036854775808 → keysB l ++ r = keysB m ++ q → l = m ∧ r = q
  | [], [], r, q, _, _, _, h => ⟨rfl, by simpa [keysB] using h⟩
  | [], y :: m, _, _, hl, _, _, _ => by simp at hl
  | x :: l, [], _, _, hl, _, _, _ => by simp at hl
  | x :: l, y :: m, r, q, hl, hx, hy, h => by
    simp only [keysW] at hx hy
    simp only [keysB, List.append_assoc] at h
    obtain ⟨e1, h1⟩ := keyB_app x y (by omega) (by omega) h
    obtain ⟨e2, h2⟩ := keysB_app2 l m (by simpa using hl) (by omega) (by omega) h1
    exact ⟨by rw [e1, e2], h2⟩
end
theorem keyB_inj {x y : Shp} (hx : x.keyW < 9223372036854775808) (hy : y.keyW < 9223372036854775808) (h : x.keyB = y.keyB) : x = y :=
  (keyB_app x y (r := []) (q := []) hx hy (by rw [h])).1
mutual
theorem same_eq : ∀ (x y : Shp), x.same y = true → x = y
  | .mk s o ks, .mk s' o' ks', h => by
    simp only [Shp.same, Bool.and_eq_true, beq_iff_eq] at h
    obtain ⟨⟨h1, h2⟩, h3⟩ := h
    have e : ∀ a b : ByteArray, a.toList = b.toList → a = b := fun a b h => by
      have : cmpB a b = cmpB b b := by simp only [cmpB, h]
      exact lwB.eq a b (by rw [this]; exact lwB.refl b)
    rw [e _ _ h1, e _ _ h2, sames_eq ks ks' h3]
theorem sames_eq : ∀ (l m : List Shp), sames l m = true → l = m
  | [], [], _ => rfl
  | [], _ :: _, h => by simp [sames] at h
  | _ :: _, [], h => by simp [sames] at h
  | x :: l, y :: m, h => by
    simp only [sames, Bool.and_eq_true] at h
    rw [same_eq x y h.1, sames_eq l m h.2]
end
theorem same_iff {x y : Shp} : x.same y = true ↔ x = y := ⟨same_eq x y, fun h => by rw [h]; exact same_refl y⟩
/-! ### counts -/
structure Cnt where
  sh : Shp
  tr : Nat
  w : Nat
instance : Inhabited Cnt := ⟨⟨.mk .empty .empty [], 0, 0⟩⟩
def cnA (c : Cnt) : List AV := c.sh.av ++ [.flat (.int .i64 (c.tr : Nat)), .flat (.int .i64 (c.w : Nat))]
abbrev cnT (c : Cnt) : TV := .g ((cnA c).map .im)
def cmpCn (a b : Cnt) : Int := orL [cmpI (b.w : Nat) (a.w : Nat), cmpI (b.tr : Nat) (a.tr : Nat), a.sh.cmp b.sh]
theorem lwCn : Lw cmpCn := by
  have hr : ∀ f : Cnt → Int, Pw fun a b : Cnt => cmpI (f b) (f a) := fun f => ⟨fun a b => lwI.anti (f b) (f a), fun a b c h1 h2 => lwI.tr (f c) (f b) (f a) h2 h1⟩
  have h : Pw cmpCn := Pw.orL (α := Cnt) [fun a b => cmpI (b.w : Nat) (a.w : Nat), fun a b => cmpI (b.tr : Nat) (a.tr : Nat), fun a b => a.sh.cmp b.sh] (by
    intro f hf
    simp only [List.mem_cons, List.not_mem_nil, or_false] at hf
    rcases hf with rfl | rfl | rfl
    · exact hr fun c => ((c.w : Nat) : Int)
    · exact hr fun c => ((c.tr : Nat) : Int)
    · exact lwS.pw Cnt.sh)
  refine ⟨h.anti, h.tr, fun a b hz => ?_⟩
  have h1 := orL_zero hz
  have e1 := lwI.eq _ _ (h1 (cmpI (b.w : Nat) (a.w : Nat)) (by simp))
  have e2 := lwI.eq _ _ (h1 (cmpI (b.tr : Nat) (a.tr : Nat)) (by simp))
  have e3 := lwS.eq _ _ (h1 (a.sh.cmp b.sh) (by simp))
  cases a; cases b
  simp only at e1 e2 e3
  rw [e3, Int.ofNat.inj e1, Int.ofNat.inj e2]
/-- One more trace of a shape, with a weight. -/
def addN (x : Shp) (w : Nat) : List Cnt → List Cnt
  | [] => [⟨x, 1, w⟩]
  | c :: r => if c.sh.same x then ⟨c.sh, c.tr + 1, c.w + w⟩ :: r else c :: addN x w r
def cntN (l : List (Shp × Nat)) : List Cnt := l.foldl (fun a p => addN p.1 p.2 a) []
theorem cntN_at {l : List (Shp × Nat)} {i : Nat} {p : Shp × Nat} (h : l[i]? = some p) : cntN (l.take (i + 1)) = addN p.1 p.2 (cntN (l.take i)) := by
  simp [cntN, List.take_add_one, h]
theorem addN_none {x : Shp} {w : Nat} : ∀ {l : List Cnt}, (∀ c ∈ l, c.sh ≠ x) → addN x w l = l ++ [⟨x, 1, w⟩]
  | [], _ => rfl
  | c :: r, h => by
    have h1 : c.sh.same x = false := by
      cases e : c.sh.same x
      · rfl
      · exact absurd (same_eq _ _ e) (h c (by simp))
    simp [addN, h1, addN_none (l := r) fun d hd => h d (by simp [hd])]
theorem addN_at {x : Shp} {w : Nat} : ∀ {l : List Cnt} {i : Nat} {c : Cnt}, (l.map Cnt.sh).Nodup → l[i]? = some c → c.sh = x → addN x w l = l.set i ⟨c.sh, c.tr + 1, c.w + w⟩
  | d :: r, 0, c, _, h, e => by simp at h; subst h; simp [addN, e, same_refl]
  | d :: r, i + 1, c, hn, h, e => by
    simp only [List.map_cons, List.nodup_cons] at hn
    have h1 : d.sh.same x = false := by
      cases e' : d.sh.same x
      · rfl
      · have := same_eq _ _ e'
        exact absurd (List.mem_map_of_mem (f := Cnt.sh) (List.mem_of_getElem? (by simpa using h))) (by rw [e, ← this]; exact hn.1)
    simp [addN, h1, addN_at hn.2 (by simpa using h) e]
theorem addN_sh {x : Shp} {w : Nat} {l : List Cnt} (hn : (l.map Cnt.sh).Nodup) : ((addN x w l).map Cnt.sh).Nodup := by
  by_cases h : ∃ c ∈ l, c.sh = x
  · obtain ⟨c, hc, e⟩ := h
    obtain ⟨i, hi⟩ := List.getElem?_of_mem hc
    rw [addN_at hn hi e, List.map_set]
    have hl := (List.getElem?_eq_some_iff.1 hi).1
    have : (l.map Cnt.sh).set i c.sh = l.map Cnt.sh := by
      rw [← (List.getElem?_eq_some_iff.1 hi).2]
      have : l[i].sh = (l.map Cnt.sh)[i]'(by simpa using hl) := by simp
      rw [this, List.set_getElem_self]
    rw [this]; exact hn
  · rw [addN_none fun c hc e => h ⟨c, hc, e⟩, List.map_append]
    refine List.nodup_append.2 ⟨hn, by simp, fun a ha b hb => ?_⟩
    obtain ⟨c, hc, rfl⟩ := List.mem_map.1 ha
    simp at hb; subst hb
    exact fun e => h ⟨c, hc, e⟩
theorem cntN_sh (l : List (Shp × Nat)) : ((cntN l).map Cnt.sh).Nodup := by
  have key : ∀ (l : List (Shp × Nat)) (a : List Cnt), (a.map Cnt.sh).Nodup → ((l.foldl (fun a p => addN p.1 p.2 a) a).map Cnt.sh).Nodup := by
    intro l
    induction l with
    | nil => exact fun a h => h
    | cons p l ih => exact fun a h => ih _ (addN_sh h)
  exact key l [] List.Pairwise.nil
theorem addN_len (x : Shp) (w : Nat) : ∀ l : List Cnt, (addN x w l).length ≤ l.length + 1
  | [] => Nat.le_refl _
  | c :: r => by have := addN_len x w r; unfold addN; split <;> simp <;> omega
/-- How much the traces and the weights can be. -/
def CntB (n b : Nat) (l : List Cnt) : Prop := ∀ c ∈ l, c.tr ≤ n ∧ c.w ≤ b
theorem addN_b {x : Shp} {w n b : Nat} : ∀ {l : List Cnt}, CntB n b l → CntB (n + 1) (b + w) (addN x w l)
  | [], _ => fun c hc => by simp [addN] at hc; subst hc; exact ⟨by simp, by simp⟩
  | d :: r, h => fun c hc => by
    unfold addN at hc
    split at hc
    · rcases List.mem_cons.1 hc with rfl | hc
      · have := h d (by simp); exact ⟨by simp; omega, by simp; omega⟩
      · have := h c (by simp [hc]); omega
    · rcases List.mem_cons.1 hc with rfl | hc
      · have := h c (by simp); omega
      · exact addN_b (fun c hc => h c (by simp [hc])) c hc
theorem cntN_b (l : List (Shp × Nat)) (hw : ∀ p ∈ l, p.2 ≤ 8) : CntB l.length (8 * l.length) (cntN l) ∧ (cntN l).length ≤ l.length := by
  have key : ∀ (l : List (Shp × Nat)) (a : List Cnt) (n : Nat), (∀ p ∈ l, p.2 ≤ 8) → CntB n (8 * n) a → a.length ≤ n → CntB (n + l.length) (8 * (n + l.length)) (l.foldl (fun a p => addN p.1 p.2 a) a) ∧ (l.foldl (fun a p => addN p.1 p.2 a) a).length ≤ n + l.length := by
    intro l
    induction l with
    | nil => exact fun a n _ h1 h2 => ⟨h1, h2⟩
    | cons p l ih =>
      intro a n hw h1 h2
      have hp := hw p (by simp)
      have h3 := addN_len p.1 p.2 a
      have := ih (addN p.1 p.2 a) (n + 1) (fun q hq => hw q (by simp [hq])) (fun c hc => by have := addN_b h1 c hc; omega) (by omega)
      simp only [List.length_cons, List.foldl_cons]
      rw [show n + (l.length + 1) = n + 1 + l.length by omega]
      exact this
  have := key l [] 0 hw (fun c hc => by simp at hc) (Nat.le_refl _)
  rw [Nat.zero_add] at this
  exact this
end Go.Proofs.YtegcmciglakicaaGreat
namespace Go.Proofs.YtegcmciglakicaaGreat
open Go.RowKit Go.Exe
set_option linter.unusedVariables false
set_option linter.unusedSimpArgs false
set_option maxHeartbeats 8000000
set_option maxRecDepth 100000
structure Trw where
  id : Nat
  w : Nat
  sp : List Spn
def twA (x : Trw) : List AV := [.flat (.int .i64 (x.id : Nat)), .flat (.int .i64 (x.w : Nat)), .sl 35 (x.sp.map spA)]
abbrev twsT (l : List Trw) : TV := .c (.im (.sl 74 (l.map twA)))
def skey (x : Shp) : Value := .string ⟨x.keyB.toArray⟩
theorem skey_inj {x y : Shp} (hx : x.keyW ≤ 140737488355328) (hy : y.keyW ≤ 140737488355328) : skey x = skey y ↔ x = y := by
  refine ⟨fun h => ?_, fun h => by rw [h]⟩
  unfold skey at h
  injection h with h
  injection h with h
  exact keyB_inj (by omega) (by omega) (by simpa using congrArg Array.toList h)
def cE (cs : List Cnt) : List (Value × Bool × List Cell) := cs.map fun c => (skey c.sh, false, [.obox 76 (cnA c)])
def cEA (cs : List Cnt) : List (Value × Bool × List AV) := cs.map fun c => (skey c.sh, false, [.pt (cnA c)])
theorem cE_close (cs : List Cnt) : closeE (cE cs) = some (cEA cs) := closeE_map _ _ (fun x => ⟨rfl, rfl, by simp [closeL, closeC]⟩) cs
theorem rnEs_cE (r : Ren) (cs : List Cnt) : rnEs r (cE cs) = cE cs := by
  unfold cE
  induction cs with
  | nil => rfl
  | cons d l ih => simp only [List.map_cons, rnEs, rnCs, rnC]; rw [ih]
def okC (cs : List Cnt) : Prop := ∀ c ∈ cs, c.sh.keyW ≤ 140737488355328
theorem cE_keys (cs : List Cnt) : (cE cs).map (·.1) = cs.map fun c => skey c.sh := by simp [cE, Function.comp_def]
theorem cE_nodup {cs : List Cnt} (h : okC cs) (hn : (cs.map Cnt.sh).Nodup) : ((cE cs).map (·.1)).Nodup := by
  rw [cE_keys, List.Nodup, List.pairwise_map]
  rw [List.Nodup, List.pairwise_map] at hn
  have h2 : cs.Pairwise fun a b => a ∈ cs ∧ b ∈ cs := List.pairwise_of_forall_mem_list fun a ha b hb => ⟨ha, hb⟩
  exact (hn.and h2).imp fun {a b} ⟨hab, ha, hb⟩ e => hab ((skey_inj (h a ha) (h b hb)).1 e)
theorem cE_set {cs : List Cnt} {i : Nat} {c : Cnt} (h : cs[i]? = some c) (d : Cnt) (hd : d.sh = c.sh) : Go.Exe.setE (cE cs) i (.obox 76 (cnA d)) = cE (cs.set i d) := by
  rw [Go.Exe.setE_set (key := skey c.sh) (b := false) (cs := [.obox 76 (cnA c)]) _ (by simp [cE, h])]
  simp [cE, List.map_set, hd]
theorem cntN_mem {l : List (Shp × Nat)} {c : Cnt} (h : c ∈ cntN l) : ∃ p ∈ l, p.1 = c.sh := by
  have key : ∀ (l : List (Shp × Nat)) (a : List Cnt), c ∈ l.foldl (fun a p => addN p.1 p.2 a) a → (∃ p ∈ l, p.1 = c.sh) ∨ ∃ d ∈ a, d.sh = c.sh := by
    intro l
    induction l with
    | nil => exact fun a h => .inr ⟨c, h, rfl⟩
    | cons p l ih =>
      intro a h
      rcases ih _ h with ⟨q, hq, e⟩ | ⟨d, hd, e⟩
      · exact .inl ⟨q, by simp [hq], e⟩
      · have h2 : ∀ (a : List Cnt), d ∈ addN p.1 p.2 a → d.sh = p.1 ∨ ∃ d' ∈ a, d'.sh = d.sh := by
          intro a
          induction a with
          | nil => intro h; simp [addN] at h; subst h; exact .inl rfl
          | cons x r ihr =>
            intro h
            unfold addN at h
            split at h
            · rcases List.mem_cons.1 h with rfl | h
              · exact .inr ⟨x, by simp, rfl⟩
              · exact .inr ⟨d, by simp [h], rfl⟩
            · rcases List.mem_cons.1 h with rfl | h
              · exact .inr ⟨d, by simp, rfl⟩
              · rcases ihr h with h | ⟨d', hd', e⟩
                · exact .inl h
                · exact .inr ⟨d', by simp [hd'], e⟩
        rcases h2 a hd with h | ⟨d', hd', e'⟩
        · exact .inl ⟨p, by simp, by rw [← e, h]⟩
        · exact .inr ⟨d', hd', by rw [e', e]⟩
  rcases key l [] h with h | ⟨d, hd, _⟩
  · exact h
  · simp at hd
attribute [local irreducible] W AX Run RunD AStep AOp AOpX AStB AStH AStG Fits PCall GCall PostG Post Stop
theorem cntCmp_c (a b : Cnt) : PCall Tryz.prog 51 [cnT a, cnT b] (ft (.int .i64 (cmpCn a b))) := by
  have c1 := cmpCompareI_c (b.w : Nat) (a.w : Nat)
  have c2 := cmpCompareI_c (b.tr : Nat) (a.tr : Nat)
  have c3 := shcompare_all cmpOr_c a.sh b.sh
  have c4 := cmpOr_c [cmpI (b.w : Nat) (a.w : Nat), cmpI (b.tr : Nat) (a.tr : Nat), a.sh.cmp b.sh]
  unfold cmpCn
  generalize cmpI (b.w : Nat) (a.w : Nat) = x at *
  generalize cmpI (b.tr : Nat) (a.tr : Nat) = y at *
  generalize a.sh.cmp b.sh = z at *
  obtain ⟨sa, ta, wa⟩ := a
  obtain ⟨sb, tb, wb⟩ := b
  obtain ⟨s, o, ks⟩ := sa
  obtain ⟨s', o', ks'⟩ := sb
  simp only [cnT, cnA, Shp.av, List.cons_append, List.nil_append, List.map, shT_mk, iA] at c1 c2 c3 c4 ⊢
  refine PCall.intro (nt := 22) (rs := [.tmp 4]) Tryz.func51 rfl ⟨by kernel_rfl, by kernel_rfl, by kernel_rfl⟩ (by simp) ?_
  rintro ⟨P, w0, ok0, may, np, pblk⟩ rfl rfl
  repeat' (first | ((show W _ _ _ _); first | refine W.seq fun K hK => ?_ | refine W.block ?_ | ((first | refine wR ?_ | refine wD ?_ | refine W.skip ?_ | refine W.exit ?_ | refine W.ret (Post.ret ?_)); simp only [go_sem, reduceCtorEq]) | refine wT ?_ | refine wF ?_ | refine wC (fun h => ?_) (fun h => ?_)) | ((show AX _ _ _ _ _); (first | refine aP ?_ | refine aF ?_ | refine aL ?_ | refine aU ?_ | refine aM ?_ | refine aN ?_ | refine aR ?_); simp only [go_sem, reduceCtorEq]) | refine iK ?_ | refine aI2 ?_ | (refine hK _ ?_; clear hK K) | clear hK K)
def tshs (X : Trw → Shp) (l : List Trw) : List (Shp × Nat) := l.map fun x => (X x, x.w)
theorem counts_c (c50 : SortC Tryz.prog 50 5) (l : List Trw) (X : Trw → Shp) (hl : l.length ≤ 100) (hw : ∀ x ∈ l, x.w ≤ 8) (hk : ∀ x ∈ l, (X x).keyW ≤ 140737488355328)
    (c12 : ∀ x ∈ l, PCall Tryz.prog 12 [spsT x.sp, ft (.int .i64 (x.id : Nat))] (shT (X x))) (c49 : ∀ x ∈ l, PCall Tryz.prog 49 [shT (X x)] (ft (.string ⟨(X x).keyB.toArray⟩))) :
    PCall Tryz.prog 23 [twsT l] (.c (.im (.sl 76 ((srtG cmpCn (cntN (tshs X l))).map cnA)))) := by
  have hpl : (tshs X l).length = l.length := by simp [tshs]
  refine PCall.intro (nt := 70) (rs := [.tmp 2]) Tryz.func23 rfl ⟨by kernel_rfl, by kernel_rfl, by kernel_rfl⟩ (by simp) ?_
  rintro ⟨P, w0, ok0, may, np, pblk⟩ rfl rfl
  repeat' (first | ((show W _ _ _ _); first | refine W.seq fun K hK => ?_ | refine W.block ?_ | ((first | refine wR ?_ | refine wD ?_ | refine W.skip ?_ | refine W.exit ?_ | refine W.ret (Post.ret ?_)); simp only [go_sem, reduceCtorEq, List.length_map]) | refine wT ?_ | refine wF ?_ | refine wC (fun h => ?_) (fun h => ?_)) | ((show AX _ _ _ _ _); (first | refine aP ?_ | refine aF ?_ | refine aL ?_ | refine aU (hnn := by simp only [go_sem, reduceCtorEq, List.length_map]) ?_ | refine aM ?_ | refine aN ?_ | refine aR ?_); simp only [go_sem, reduceCtorEq, List.length_map]) | refine iK ?_ | refine aI2 ?_ | (refine hK _ ?_; clear hK K) | clear hK K)
  refine W.loopF (T := fun i : Nat => { t := [(3, .c (.mp 0)), (12, twsT l), (13, ft (.int .i64 l.length)), (14, ft (.int .i64 (i : Nat)))], h := [(0, .map 9 (cE (cntN ((tshs X l).take i))))], nx := 1, ex := [], nt := 70 })
    (Inv := fun i => i ≤ l.length) (μ := fun i => l.length - i) (x0 := 0) (Fits.fit [(1, 0)] [3, 12, 13, 14] 1 rfl rfl ?_) (Nat.zero_le _) ?_
  · simp only [go_sem, List.take_zero, cntN, List.foldl_nil, cE, List.map_nil]
    exact Fits.rfl
  rintro i hi KL hKL
  by_cases hlt : i < l.length
  · obtain ⟨x, hx, hm, hd⟩ := drop_at hlt
    have e1 : decide ((i : Int) < l.length) = true := by simp; omega
    have hwi := w64s i (by omega)
    have hat := cntN_at (l := tshs X l) (i := i) (p := (X x, x.w)) (by simp [tshs, hx])
    have hxk := hk x hm
    have hkl := keyB_len (X x) (by omega)
    have hko : KeyOk Tryz.prog 9 (.string ⟨(X x).keyB.toArray⟩) := ⟨_, _root_.Go.WideMaps.keyOf_string_mk tU9 (by rw [maxLen_is]; show (Shp.keyB _).toArray.size ≤ _; simp only [List.size_toArray]; omega)⟩
    have ca := c12 x hm
    have cb := c49 x hm
    clear c12 c49
    have hb := cntN_b ((tshs X l).take i) (fun p hp => by
      obtain ⟨y, hy, rfl⟩ := List.mem_map.1 (List.mem_of_mem_take hp)
      exact hw y hy)
    have htl : ((tshs X l).take i).length ≤ 100 := by rw [List.length_take]; omega
    have hok : okC (cntN ((tshs X l).take i)) := fun c hc => by
      obtain ⟨p, hp, e⟩ := cntN_mem hc
      obtain ⟨y, hy, rfl⟩ := List.mem_map.1 (List.mem_of_mem_take hp)
      rw [← e]; exact hk y hy
    have hns := cntN_sh ((tshs X l).take i)
    have hpk : Value.string ⟨(X x).keyB.toArray⟩ = skey (X x) := rfl
    have hwx := hw x hm
    simp only at hat
    generalize cntN ((tshs X l).take i) = cs at hat hb hok hns ⊢
    obtain ⟨cs1, hcs1⟩ : ∃ c, c = cntN ((tshs X l).take (i + 1)) := ⟨_, rfl⟩
    rw [← hcs1] at hat
    generalize X x = sx at *
    obtain ⟨s, o, ks⟩ := sx
    simp only [shT_mk] at ca cb
    repeat' (first | ((show W _ _ _ _); first | refine W.stop (id := 7) ?_ | refine W.seq fun K hK => ?_ | refine W.block ?_ | ((first | refine wR ?_ | refine wD ?_ | refine W.skip ?_ | refine W.exit ?_ | refine W.ret (Post.ret ?_)); simp only [go_sem, reduceCtorEq, List.getElem?_map, hx, twA, e1]) | refine wT ?_ | refine wF ?_ | refine wC (fun h => ?_) (fun h => ?_)) | ((show AX _ _ _ _ _); (first | refine aP ?_ | refine aF ?_ | refine aL ?_ | refine aU (hnn := by simp only [go_sem, reduceCtorEq, List.getElem?_map, hx, twA, e1]) ?_ | refine aM ?_ | refine aN ?_ | refine aR ?_); simp only [go_sem, reduceCtorEq, List.getElem?_map, hx, twA, e1]) | refine iK ?_ | refine aI2 ?_ | (refine hK _ ?_; clear hK K) | clear hK K)
    refine Stop.out ?_
    refine W.fits (s' := { t := [(3, .c (.mp 0)), (5, .c (.ptr 1 0)), (6, .c (.ptr 2 0)), (7, ft (.string ⟨(Shp.mk s o ks).keyB.toArray⟩)), (12, twsT l), (13, ft (.int .i64 l.length)), (14, ft (.int .i64 (i : Nat)))], h := [(0, .map 9 (cE cs)), (1, .box 74 [fl (.int .i64 (x.id : Nat)), fl (.int .i64 (x.w : Nat)), .im (.sl 35 (x.sp.map spA))]), (2, .box 41 [fl (.string s), fl (.string o), .im (.sl 41 (avs ks))])], nx := 3, ex := [], nt := 70 }) ?_ ?_
    · refine Fits.fit [(0, 0), (4, 1), (11, 2)] [3, 5, 6, 7, 12, 13, 14] 3 rfl rfl ?_
      simp only [go_sem, rnEs_cE]
      exact Fits.rfl
    by_cases hex : ∃ c ∈ cs, c.sh = Shp.mk s o ks
    · obtain ⟨c, hcm, hce⟩ := hex
      obtain ⟨j, hj⟩ := List.getElem?_of_mem hcm
      have hcb := hb.1 c hcm
      have hei : (cE cs)[j]? = some (skey (.mk s o ks), false, [.obox 76 (cnA c)]) := by simp [cE, hj, hce]
      have hget : mget (Value.string ⟨(Shp.mk s o ks).keyB.toArray⟩) (Go.Exe.setE (cE cs) j (.ptr 3 0)) = some (false, [.ptr 3 0]) := mget_setE (cE_nodup hok hns) hei
      have hadd := addN_at (w := x.w) hns hj hce
      rw [hadd] at hat
      have w1 : IntKind.i64.wrap (((c.tr : Nat) : Int) + 1) = ((c.tr + 1 : Nat) : Int) := w64s c.tr (by omega)
      have w2 : IntKind.i64.wrap (((c.w : Nat) : Int) + ((x.w : Nat) : Int)) = ((c.w + x.w : Nat) : Int) := wadd _ _ (by omega)
      have hfin := cE_set hj ⟨c.sh, c.tr + 1, c.w + x.w⟩ rfl
      have hcA : cnA ⟨c.sh, c.tr + 1, c.w + x.w⟩ = [.flat (.string s), .flat (.string o), .sl 41 (avs ks), .flat (.int .i64 (c.tr + 1 : Nat)), .flat (.int .i64 (c.w + x.w : Nat))] := by simp [cnA, hce, Shp.av]
      have hcA0 : cnA c = [.flat (.string s), .flat (.string o), .sl 41 (avs ks), .flat (.int .i64 (c.tr : Nat)), .flat (.int .i64 (c.w : Nat))] := by simp [cnA, hce, Shp.av]
      rw [hcA] at hfin
      refine W.fits (s' := { t := [(3, .c (.mp 0)), (5, .c (.ptr 1 0)), (6, .c (.ptr 2 0)), (7, ft (.string ⟨(Shp.mk s o ks).keyB.toArray⟩)), (12, twsT l), (13, ft (.int .i64 l.length)), (14, ft (.int .i64 (i : Nat)))], h := [(0, .map 9 (Go.Exe.setE (cE cs) j (.ptr 3 0))), (1, .box 74 [fl (.int .i64 (x.id : Nat)), fl (.int .i64 (x.w : Nat)), .im (.sl 35 (x.sp.map spA))]), (2, .box 41 [fl (.string s), fl (.string o), .im (.sl 41 (avs ks))]), (3, .box 76 [fl (.string s), fl (.string o), .im (.sl 41 (avs ks)), fl (.int .i64 (c.tr : Nat)), fl (.int .i64 (c.w : Nat))])], nx := 4, ex := [], nt := 70 })
        (Fits.unf 0 j 0 3 (c := .obox 76 (cnA c)) rfl rfl (by simp only [Obj.slot, hei]) rfl rfl ?_) ?_
      · simp only [go_sem, hcA0, imL]
        refine Fits.fit [(0, 0), (1, 1), (2, 2), (3, 3)] [3, 5, 6, 7, 12, 13, 14] 4 rfl rfl ?_
        simp only [go_sem, rnEs_cE]
        exact Fits.rfl
      repeat' (first | ((show W _ _ _ _); first | refine W.seq fun K hK => ?_ | refine W.block ?_ | ((first | refine wR ?_ | refine wD ?_ | refine W.skip ?_ | refine W.exit ?_ | refine W.ret (Post.ret ?_)); simp only [go_sem, reduceCtorEq, hget, w1, w2, hwi]) | refine wT ?_ | refine wF ?_ | refine wC (fun h => ?_) (fun h => ?_)) | ((show AX _ _ _ _ _); (first | refine aP ?_ | refine aF ?_ | refine aL ?_ | refine aU (hnn := by simp only [go_sem, reduceCtorEq, hget, w1, w2, hwi]) ?_ | refine aM ?_ | refine aN ?_ | refine aR ?_); simp only [go_sem, reduceCtorEq, hget, w1, w2, hwi]) | refine iK ?_ | refine aI2 ?_ | (refine hK _ ?_; clear hK K) | clear hK K)
      refine hKL.to (i + 1) (by omega) (by omega) ?_
      refine Fits.fold 0 j 0 3 (.obox 76 [.flat (.string s), .flat (.string o), .sl 41 (avs ks), .flat (.int .i64 (c.tr + 1 : Nat)), .flat (.int .i64 (c.w + x.w : Nat))]) rfl rfl rfl (by simp only [Obj.slot, Go.Exe.setE_set _ hei, List.getElem?_set_self (List.getElem?_eq_some_iff.1 hei).1]; rfl) (by decide) ?_
      simp only [go_sem, setE_setE, hfin, ← hat]
      refine Fits.fit [(0, 0)] [3, 12, 13, 14] 1 rfl rfl ?_
      simp only [go_sem, rnEs_cE, hcs1]
      exact Fits.rfl
    · have hno : ∀ c ∈ cs, c.sh ≠ Shp.mk s o ks := fun c hc e => hex ⟨c, hc, e⟩
      have hadd := addN_none (w := x.w) hno
      rw [hadd] at hat
      have hne : ∀ e ∈ cE cs, e.1 ≠ Value.string ⟨(Shp.mk s o ks).keyB.toArray⟩ := fun e he => by
        obtain ⟨c, hc, rfl⟩ := List.mem_map.1 he
        exact fun e => hno c hc ((skey_inj (hok c hc) hxk).1 e)
      have hget0 : mget (Value.string ⟨(Shp.mk s o ks).keyB.toArray⟩) (cE cs) = none := mget_none hne
      have hput : ∀ y, mput (Value.string ⟨(Shp.mk s o ks).keyB.toArray⟩) y (cE cs) = cE cs ++ [(Value.string ⟨(Shp.mk s o ks).keyB.toArray⟩, y)] := fun y => mput_none hne
      have hget1 : ∀ y, mget (Value.string ⟨(Shp.mk s o ks).keyB.toArray⟩) (cE cs ++ [(Value.string ⟨(Shp.mk s o ks).keyB.toArray⟩, y)]) = some y := fun y => by
        have : ∀ l : List (Value × Bool × List Cell), (∀ e ∈ l, e.1 ≠ Value.string ⟨(Shp.mk s o ks).keyB.toArray⟩) → mget (Value.string ⟨(Shp.mk s o ks).keyB.toArray⟩) (l ++ [(Value.string ⟨(Shp.mk s o ks).keyB.toArray⟩, y)]) = some y := by
          intro l
          induction l with
          | nil => intro _; simp [mget]
          | cons e l ih => intro h; simp only [List.cons_append, mget]; rw [if_neg (h e (by simp)), ih fun x hx => h x (by simp [hx])]
        exact this _ hne
      have w1 : IntKind.i64.wrap ((0 : Int) + 1) = 1 := by decide
      have w2 : IntKind.i64.wrap ((0 : Int) + ((x.w : Nat) : Int)) = ((x.w : Nat) : Int) := by rw [Int.zero_add]; exact w64n _ (by omega)
      have hset : Go.Exe.setE (cE cs ++ [(Value.string ⟨(Shp.mk s o ks).keyB.toArray⟩, (false, [Cell.ptr 11 0]))]) cs.length (.obox 76 [.flat (.string s), .flat (.string o), .sl 41 (avs ks), .flat (.int .i64 1), .flat (.int .i64 (x.w : Nat))]) = cE cs1 := by
        rw [hat]
        have : ∀ (l : List Cnt), Go.Exe.setE (cE l ++ [(Value.string ⟨(Shp.mk s o ks).keyB.toArray⟩, (false, [Cell.ptr 11 0]))]) l.length (.obox 76 [.flat (.string s), .flat (.string o), .sl 41 (avs ks), .flat (.int .i64 1), .flat (.int .i64 (x.w : Nat))]) = cE (l ++ [⟨.mk s o ks, 1, x.w⟩]) := by
          intro l
          induction l with
          | nil => rfl
          | cons d l ih => simp only [cE, List.map_cons, List.cons_append, List.length_cons, Go.Exe.setE] at ih ⊢; rw [ih]
        exact this cs
      repeat' (first | ((show W _ _ _ _); first | refine W.seq fun K hK => ?_ | refine W.block ?_ | ((first | refine wR ?_ | refine wD ?_ | refine W.skip ?_ | refine W.exit ?_ | refine W.ret (Post.ret ?_)); simp only [go_sem, reduceCtorEq, hget0, hput, hget1, w1, w2, hwi]) | refine wT ?_ | refine wF ?_ | refine wC (fun h => ?_) (fun h => ?_)) | ((show AX _ _ _ _ _); (first | refine aP ?_ | refine aF ?_ | refine aL ?_ | refine aU (hnn := by simp only [go_sem, reduceCtorEq, hget0, hput, hget1, w1, w2, hwi]) ?_ | refine aM ?_ | refine aN ?_ | refine aR ?_); simp only [go_sem, reduceCtorEq, hget0, hput, hget1, w1, w2, hwi]) | refine iK ?_ | refine aI2 ?_ | (refine hK _ ?_; clear hK K) | clear hK K)
      refine hKL.to (i + 1) (by omega) (by omega) ?_
      refine Fits.fold 0 cs.length 0 11 (.obox 76 [.flat (.string s), .flat (.string o), .sl 41 (avs ks), .flat (.int .i64 1), .flat (.int .i64 (x.w : Nat))]) rfl rfl rfl (by simp [Obj.slot, cE, refCell]) (by decide) ?_
      simp only [go_sem, hset]
      refine Fits.fit [(0, 0)] [3, 12, 13, 14] 1 rfl rfl ?_
      simp only [go_sem, rnEs_cE, hcs1]
      exact Fits.rfl
  obtain rfl : i = l.length := by omega
  have e1 : decide ((l.length : Int) < l.length) = false := by simp
  clear hKL c12 c49
  have htk : (tshs X l).take l.length = tshs X l := by rw [← hpl, List.take_length]
  rw [htk]
  have hb := cntN_b (tshs X l) (fun p hp => by
    obtain ⟨y, hy, rfl⟩ := List.mem_map.1 hp
    exact hw y hy)
  obtain ⟨cs, hcs⟩ : ∃ c, c = cntN (tshs X l) := ⟨_, rfl⟩
  rw [← hcs] at hb ⊢
  repeat' (first | ((show W _ _ _ _); first | refine W.stop (id := 13) ?_ | refine W.seq fun K hK => ?_ | refine W.block ?_ | ((first | refine wR ?_ | refine wD ?_ | refine W.skip ?_ | refine W.exit ?_ | refine W.ret (Post.ret ?_)); simp only [go_sem, reduceCtorEq, e1]) | refine wT ?_ | refine wF ?_ | refine wC (fun h => ?_) (fun h => ?_)) | ((show AX _ _ _ _ _); (first | refine aP ?_ | refine aF ?_ | refine aL ?_ | refine aU (hnn := by simp only [go_sem, reduceCtorEq, e1]) ?_ | refine aM ?_ | refine aN ?_ | refine aR ?_); simp only [go_sem, reduceCtorEq, e1]) | refine iK ?_ | refine aI2 ?_ | (refine hK _ ?_; clear hK K) | clear hK K)
  refine Stop.out ?_
  refine W.fits (Fits.freezeM 0 rfl (cE_close _) Fits.rfl) ?_
  simp only [go_sem]
  repeat' (first | ((show W _ _ _ _); first | refine W.seq fun K hK => ?_ | refine W.block ?_ | ((first | refine wR ?_ | refine wD ?_ | refine W.skip ?_ | refine W.exit ?_ | refine W.ret (Post.ret ?_)); simp only [go_sem, reduceCtorEq]) | refine wT ?_ | refine wF ?_ | refine wC (fun h => ?_) (fun h => ?_)) | ((show AX _ _ _ _ _); (first | refine aP ?_ | refine aF ?_ | refine aL ?_ | refine aU ?_ | refine aM ?_ | refine aN ?_ | refine aR ?_); simp only [go_sem, reduceCtorEq]) | refine iK ?_ | refine aI2 ?_ | (refine hK _ ?_; clear hK K) | clear hK K)
  refine W.loopF (T := fun seen : List Nat => { t := [(8, .c (.ref 1)), (56, .c (.ptr 0 0))], h := [(0, .itf 9 (cEA cs) seen), (1, .row 76 (imR ((seen.map fun j => cs.getD j default).map cnA)))], nx := 2, ex := [], nt := 70 })
    (Inv := fun seen => seen.Nodup ∧ ∀ j ∈ seen, j < cs.length) (μ := fun seen => cs.length - seen.length) (x0 := []) ?_ ⟨List.nodup_nil, by simp⟩ ?_
  · refine Fits.adopt 8 99 76 rfl rfl rfl tE76 rfl ?_
    refine Fits.fit [(4, 0), (99, 1)] [8, 56] 2 rfl rfl ?_
    simp only [go_sem, List.map_nil, imR_nil]
    exact Fits.rfl
  rintro seen ⟨hnd, hbd⟩ KL hKL
  repeat' (first | ((show W _ _ _ _); first | refine W.stop (id := 14) ?_ | refine W.seq fun K hK => ?_ | refine W.block ?_ | ((first | refine wR ?_ | refine wD ?_ | refine W.skip ?_ | refine W.exit ?_ | refine W.ret (Post.ret ?_)); simp only [go_sem, reduceCtorEq]) | refine wT ?_ | refine wF ?_ | refine wC (fun h => ?_) (fun h => ?_)) | ((show AX _ _ _ _ _); (first | refine aP ?_ | refine aF ?_ | refine aL ?_ | refine aU ?_ | refine aM ?_ | refine aN ?_ | refine aR ?_); simp only [go_sem, reduceCtorEq]) | refine iK ?_ | refine aI2 ?_ | (refine hK _ ?_; clear hK K) | clear hK K)
  refine Stop.out ?_
  refine W.nextReg rfl rfl rfl rfl rfl rfl rfl rfl rfl rfl (fun j e he hj => ?_) (fun hall => ?_)
  · simp only [cEA, List.getElem?_map, Option.map_eq_some_iff] at he
    obtain ⟨d, hd, rfl⟩ := he
    have hjl := (List.getElem?_eq_some_iff.1 hd).1
    have hn2 : (seen ++ [j]).Nodup := List.nodup_append.2 ⟨hnd, by simp, fun x hx y hy => by simp at hy; subst hy; exact fun e => hj (e ▸ hx)⟩
    have hb2 : ∀ i ∈ seen ++ [j], i < cs.length := fun i hi => by
      rcases List.mem_append.1 hi with h | h
      · exact hbd i h
      · simp at h; omega
    have hsl := seen_le hn2 hb2
    have hsa : (seen ++ [j]).length = seen.length + 1 := by simp
    have hed : (cEA cs)[j]? = some (skey d.sh, false, [.pt (cnA d)]) := by simp [cEA, hd]
    have hgd : cs.getD j default = d := by simp [List.getD_eq_getElem?_getD, hd]
    simp only [go_sem]
    repeat' (first | ((show W _ _ _ _); first | refine W.seq fun K hK => ?_ | refine W.block ?_ | ((first | refine wR ?_ | refine wD ?_ | refine W.skip ?_ | refine W.exit ?_ | refine W.ret (Post.ret ?_)); simp only [go_sem, reduceCtorEq]) | refine wT ?_ | refine wF ?_ | refine wC (fun h => ?_) (fun h => ?_)) | ((show AX _ _ _ _ _); (first | refine aP ?_ | refine aF ?_ | refine aL ?_ | refine aU ?_ | refine aM ?_ | refine aN ?_ | refine aR ?_); simp only [go_sem, reduceCtorEq]) | refine iK ?_ | refine aI2 ?_ | (refine hK _ ?_; clear hK K) | clear hK K)
    refine AX.entry rfl rfl rfl (j := j) (by simp) hed rfl rfl ?_
    obtain ⟨sd, td, wd⟩ := d
    obtain ⟨s, o, ks⟩ := sd
    have hcA : cnA ⟨.mk s o ks, td, wd⟩ = [.flat (.string s), .flat (.string o), .sl 41 (avs ks), .flat (.int .i64 (td : Nat)), .flat (.int .i64 (wd : Nat))] := by simp [cnA, Shp.av]
    simp only [go_sem, hcA, imL]
    repeat' (first | ((show W _ _ _ _); first | refine W.seq fun K hK => ?_ | refine W.block ?_ | ((first | refine wR ?_ | refine wD ?_ | refine W.skip ?_ | refine W.exit ?_ | refine W.ret (Post.ret ?_)); simp only [go_sem, reduceCtorEq, imR_len, List.length_map]) | refine wT ?_ | refine wF ?_ | refine wC (fun h => ?_) (fun h => ?_)) | ((show AX _ _ _ _ _); (first | refine aP ?_ | refine aF ?_ | refine aL ?_ | refine aU (hnn := by simp only [go_sem, reduceCtorEq, imR_len, List.length_map]) ?_ | refine aM ?_ | refine aN ?_ | refine aR ?_); simp only [go_sem, reduceCtorEq, imR_len, List.length_map]) | refine iK ?_ | refine aI2 ?_ | (refine hK _ ?_; clear hK K) | clear hK K)
    refine hKL.to (seen ++ [j]) ⟨hn2, hb2⟩ (by omega) (Fits.fit [(0, 0), (10, 1)] [8, 56] 2 rfl rfl ?_)
    simp only [go_sem, List.map_append, List.map_cons, List.map_nil, hgd, hcA, imR_app, imR_one, imL]
    exact Fits.rfl
  · simp only [go_sem]
    clear hKL
    have hall : ∀ j, j < cs.length → j ∈ seen := fun j hj => hall j (by simpa [cEA] using hj)
    have hp : (seen.map fun j => cs.getD j default).Perm cs := by
      have h1 := (seen_perm hnd hbd hall).map fun j => cs.getD j default
      have h2 : (List.range cs.length).map (fun j => cs.getD j default) = cs := by
        apply List.ext_getElem?
        intro i
        rw [List.getElem?_map]
        by_cases h : i < cs.length
        · rw [List.getElem?_range h]; simp [List.getD_eq_getElem?_getD, h]
        · rw [List.getElem?_eq_none (by simpa using h), List.getElem?_eq_none (by simpa using h)]; rfl
      rwa [h2] at h1
    repeat' (first | ((show W _ _ _ _); first | refine W.seq fun K hK => ?_ | refine W.block ?_ | ((first | refine wR ?_ | refine wD ?_ | refine W.skip ?_ | refine W.exit ?_ | refine W.ret (Post.ret ?_)); simp only [go_sem, reduceCtorEq]) | refine wT ?_ | refine wF ?_ | refine wC (fun h => ?_) (fun h => ?_)) | ((show AX _ _ _ _ _); (first | refine aP ?_ | refine aF ?_ | refine aL ?_ | refine aU ?_ | refine aM ?_ | refine aN ?_ | refine aR ?_); simp only [go_sem, reduceCtorEq]) | refine iK ?_ | refine aI2 ?_ | (refine hK _ ?_; clear hK K) | clear hK K)
    refine AX.sort (zs := srtG cmpCn cs) (cm := cmpCn) cnA rfl rfl rfl rfl rfl rfl tE76 (by decide) c50 (fun x _ y _ => cntCmp_c x y) (lwCn.ord _) ((srtG_perm cmpCn cs).trans hp.symm) (fun zs' h1 h2 => lwCn.srt_uni (h1.trans hp) h2) rfl ?_
    simp only [go_sem]
    repeat' (first | ((show W _ _ _ _); first | refine W.seq fun K hK => ?_ | refine W.block ?_ | ((first | refine wR ?_ | refine wD ?_ | refine W.skip ?_ | refine W.exit ?_ | refine W.ret (Post.ret ?_)); simp only [go_sem, reduceCtorEq]) | refine wT ?_ | refine wF ?_ | refine wC (fun h => ?_) (fun h => ?_)) | ((show AX _ _ _ _ _); (first | refine aP ?_ | refine aF ?_ | refine aL ?_ | refine aU ?_ | refine aM ?_ | refine aN ?_ | refine aR ?_); simp only [go_sem, reduceCtorEq]) | refine iK ?_ | refine aI2 ?_ | (refine hK _ ?_; clear hK K) | clear hK K)
    rw [hcs]
end Go.Proofs.YtegcmciglakicaaGreat
namespace Go.Proofs.YtegcmciglakicaaGreat
open Go.RowKit Go.Exe
set_option linter.unusedVariables false
set_option linter.unusedSimpArgs false
set_option maxHeartbeats 8000000
set_option maxRecDepth 100000
attribute [local irreducible] W AX Run RunD AStep AOp AOpX AStB AStH AStG Fits PCall GCall PostG Post Stop
theorem traces_g (s : Sto) (hs : s.ok) : GCall Tryz.prog 22 0 (St.g [stoT s] [] 0) (St.r (.c (.ref 0)) [(0, .row 74 (imR ((trsS s).map trcA)))] 1) := by
  have h3 := hs.2.2.2.2.2.2
  have c47 : ∀ k, k < s.ts.length → PCall Tryz.prog 47 [stoT s, ft (.int .i64 (k : Nat))] (ft (.int .i64 (tidN s k : Nat))) := tid_c s hs
  have c48 : ∀ (k : Nat) (t : Tre), s.ts[k]? = some t → 0 < t.cs.length → PCall Tryz.prog 48 [stoT s, ft (.int .i64 (k : Nat)), ft (.bool false)] (spsT (trcS s k t)) := fun k t hk h0 => strace_c s hs k t hk h0
  simp only [stoT, stoA, List.map] at c47 c48 ⊢
  refine GCall.introG (nt := 59) (rs := [.tmp 2]) Tryz.func22 rfl ⟨by kernel_rfl, by kernel_rfl, by kernel_rfl⟩ (by simp) ?_
  rintro ⟨P, w0, ok0, may, np, pblk⟩ rfl rfl
  simp only [go_sem]
  repeat' (first | ((show W _ _ _ _); first | refine W.seq fun K hK => ?_ | refine W.block ?_ | ((first | refine wR ?_ | refine wD ?_ | refine W.skip ?_ | refine W.exit ?_ | refine W.ret (Post.ret ?_)); simp only [go_sem, reduceCtorEq]) | refine wT ?_ | refine wF ?_ | refine wC (fun h => ?_) (fun h => ?_)) | ((show AX _ _ _ _ _); (first | refine aP ?_ | refine aF ?_); simp only [go_sem, reduceCtorEq]) | refine iK ?_ | refine aI2 ?_ | (refine hK _ ?_; clear hK K) | clear hK K)
  refine W.loopF (T := fun i : Nat => { t := [(1, .c (.ptr 0 0)), (3, .c (.ref 1)), (4, ft (.int .i64 (i : Nat)))], h := [(0, .box 27 ((stoA s).map .im)), (1, .row 74 (imR ((trsN s i).map trcA)))], nx := 2, ex := [], nt := 59 })
    (Inv := fun i => i ≤ s.ts.length) (μ := fun i => s.ts.length - i) (x0 := 0) ?_ (Nat.zero_le _) ?_
  · refine Fits.adopt 3 99 74 rfl rfl rfl tE74 rfl ?_
    refine Fits.fit [(0, 0), (99, 1)] [1, 3, 4] 2 rfl rfl ?_
    simp only [go_sem, trsN, List.map_nil, imR_nil, stoA, List.map]
    exact Fits.rfl
  rintro i hi KL hKL
  simp only [stoA, List.map] at hKL ⊢
  by_cases hlt : i < s.ts.length
  rotate_left
  · obtain rfl : i = s.ts.length := by omega
    have e1 : decide ((s.ts.length : Int) < s.ts.length) = false := by simp
    clear hKL c47 c48
    repeat' (first | ((show W _ _ _ _); first | refine W.seq fun K hK => ?_ | refine W.block ?_ | ((first | refine wR ?_ | refine wD ?_ | refine W.skip ?_ | refine W.exit ?_ | refine W.ret (Post.ret ?_)); simp only [go_sem, reduceCtorEq, List.length_map, e1]) | refine wT ?_ | refine wF ?_ | refine wC (fun h => ?_) (fun h => ?_)) | ((show AX _ _ _ _ _); (first | refine aP ?_ | refine aF ?_); simp only [go_sem, reduceCtorEq, List.length_map, e1]) | refine iK ?_ | refine aI2 ?_ | (refine hK _ ?_; clear hK K) | clear hK K)
    refine W.ret (PostG.ret (Fits.fit [(1, 0)] [2] 1 rfl rfl Fits.rfl) rfl rfl ?_)
    simp only [St.r, go_sem]
    rfl
  obtain ⟨t, hx, hm, hd⟩ := drop_at hlt
  have e1 : decide ((i : Int) < s.ts.length) = true := by simp; omega
  have hw := w64s i (by omega)
  have c1 := c47 i hlt
  have c2 := c48 i t hx
  clear c47 c48
  by_cases h0 : t.cs.length = 0
  · have e2 : (((t.cs.length : Nat) : Int) == 0) = true := by simp [h0]
    have hat : trsN s (i + 1) = trsN s i := by simp [trsN, hx, h0]
    clear c1 c2
    repeat' (first | ((show W _ _ _ _); first | refine W.seq fun K hK => ?_ | refine W.block ?_ | ((first | refine wR ?_ | refine wD ?_ | refine W.skip ?_ | refine W.exit ?_ | refine W.ret (Post.ret ?_)); simp only [go_sem, reduceCtorEq, List.getElem?_map, hx, treA, List.length_map, e1, e2, hw]) | refine wT ?_ | refine wF ?_ | refine wC (fun h => ?_) (fun h => ?_)) | ((show AX _ _ _ _ _); (first | refine aP ?_ | refine aF ?_); simp only [go_sem, reduceCtorEq, List.getElem?_map, hx, treA, List.length_map, e1, e2, hw]) | refine iK ?_ | refine aI2 ?_ | (refine hK _ ?_; clear hK K) | clear hK K)
    refine hKL.to (i + 1) (by omega) (by omega) (Fits.fit [(0, 0), (1, 1)] [1, 3, 4] 2 rfl rfl ?_)
    simp only [go_sem, hat]
    exact Fits.rfl
  have e2 : (((t.cs.length : Nat) : Int) == 0) = false := by simp; intro h; apply h0; simp [h]
  have c3 := c2 (by omega)
  clear c2
  have hat : trsN s (i + 1) = insT (tidN s i, trcS s i t) (trsN s i) := by simp [trsN, hx, h0]
  have hl := trsN_len s i
  generalize hacc : trsN s i = acc at hat hl ⊢
  generalize htc : trcS s i t = ss at hat c3
  have htid := tidN_lt hs i hlt
  generalize hid : tidN s i = id at hat c1 htid
  repeat' (first | ((show W _ _ _ _); first | refine W.seq fun K hK => ?_ | refine W.block ?_ | ((first | refine wR ?_ | refine wD ?_ | refine W.skip ?_ | refine W.exit ?_ | refine W.ret (Post.ret ?_)); simp only [go_sem, reduceCtorEq, List.getElem?_map, hx, treA, List.length_map, e1, e2, hw, imR_len]) | refine wT ?_ | refine wF ?_ | refine wC (fun h => ?_) (fun h => ?_)) | ((show AX _ _ _ _ _); (first | refine aP ?_ | refine aF ?_); simp only [go_sem, reduceCtorEq, List.getElem?_map, hx, treA, List.length_map, e1, e2, hw, imR_len]) | refine iK ?_ | refine aI2 ?_ | (refine hK _ ?_; clear hK K) | clear hK K)
  have hK2 : ∀ k : Nat, k ≤ acc.length → posT id acc acc.length = k → ∀ s1 : St, Fits ⟨Tryz.prog, w0, ok0, may, 0, pblk⟩ s1 { t := [(1, .c (.ptr 0 0)), (3, .c (.ref 1)), (4, ft (.int .i64 (i : Nat))), (5, .c (.ptr 2 0)), (6, ft (.int .i64 (k : Nat)))], h := [(0, .box 27 [.im (.sl 91 (s.ts.map treA)), fl (.int .i8 s.o1), fl (.int .i8 s.o2), fl (.int .i8 s.o3), fl (.int .i8 s.o4), .im (.sl 261 s.sy), fl (.int .u8 (s.wr : Nat))]), (1, .row 74 (imR (acc.map trcA))), (2, .box 74 [fl (.int .i64 (id : Nat)), fl (.int .i64 1), .im (.sl 35 (ss.map spA))])], nx := 3, ex := [], nt := 59 } → K s1 := by
    intro k hk hpos s1 hf
    refine hK _ (W.fits hf ?_); clear hK K
    have f1 : decide (k ≤ acc.length) = true := by simp; omega
    have f2 : decide (k + (acc.length - k) ≤ acc.length) = true := by simp; omega
    have f3 : List.take (acc.length - k) (List.drop k (List.map trcA acc)) = List.drop k (List.map trcA acc) := List.take_of_length_le (by simp)
    clear c1 c3
    repeat' (first | ((show W _ _ _ _); first | refine W.seq fun K hK => ?_ | refine W.block ?_ | ((first | refine wR ?_ | refine wD ?_ | refine W.skip ?_ | refine W.exit ?_ | refine W.ret (Post.ret ?_)); simp only [go_sem, reduceCtorEq, List.length_map, imR_len, f1, f2, f3, hw, Nat.sub_zero]) | refine wT ?_ | refine wF ?_ | refine wC (fun h => ?_) (fun h => ?_)) | ((show AX _ _ _ _ _); (first | refine aP ?_ | refine aF ?_); simp only [go_sem, reduceCtorEq, List.length_map, imR_len, f1, f2, f3, hw, Nat.sub_zero]) | refine iK ?_ | refine aI2 ?_ | (refine hK _ ?_; clear hK K) | clear hK K)
    refine hKL.to (i + 1) (by omega) (by omega) (Fits.fit [(0, 0), (14, 1)] [1, 3, 4] 2 rfl rfl ?_)
    simp only [go_sem, hat, insT, hpos, List.map_append, List.map_take, List.map_drop, imR_app, imR_one, imL, trcA, List.map_cons, List.map_nil]
    exact Fits.rfl
  refine W.loopF (T := fun k : Nat => { t := [(1, .c (.ptr 0 0)), (3, .c (.ref 1)), (4, ft (.int .i64 (i : Nat))), (5, .c (.ptr 2 0)), (6, ft (.int .i64 (k : Nat)))], h := [(0, .box 27 [.im (.sl 91 (s.ts.map treA)), fl (.int .i8 s.o1), fl (.int .i8 s.o2), fl (.int .i8 s.o3), fl (.int .i8 s.o4), .im (.sl 261 s.sy), fl (.int .u8 (s.wr : Nat))]), (1, .row 74 (imR (acc.map trcA))), (2, .box 74 [fl (.int .i64 (id : Nat)), fl (.int .i64 1), .im (.sl 35 (ss.map spA))])], nx := 3, ex := [], nt := 59 })
    (Inv := fun k => k ≤ acc.length ∧ posT id acc acc.length = posT id acc k) (μ := fun k => k) (x0 := acc.length) (Fits.fit [(0, 0), (1, 1), (22, 2)] [1, 3, 4, 5, 6] 3 rfl rfl ?_) ⟨Nat.le_refl _, rfl⟩ ?_
  · simp only [go_sem]
    exact Fits.rfl
  clear c1 c3
  rintro k ⟨hk, hinv⟩ KL2 hKL2
  rcases k with _ | n
  · have e3 : decide (((0 : Nat) : Int) > 0) = false := by simp
    clear hK
    repeat' (first | ((show W _ _ _ _); first | refine W.seq fun K hK => ?_ | refine W.block ?_ | ((first | refine wR ?_ | refine wD ?_ | refine W.skip ?_ | refine W.exit ?_ | refine W.ret (Post.ret ?_)); simp only [go_sem, reduceCtorEq, e3]) | refine wT ?_ | refine wF ?_ | refine wC (fun h => ?_) (fun h => ?_)) | ((show AX _ _ _ _ _); (first | refine aP ?_ | refine aF ?_); simp only [go_sem, reduceCtorEq, e3]) | refine iK ?_ | refine aI2 ?_ | (refine hK _ ?_; clear hK K) | clear hK K)
    refine hK2 0 (Nat.zero_le _) (by rw [hinv]; rfl) _ (Fits.fit [(0, 0), (1, 1), (2, 2)] [1, 3, 4, 5, 6] 3 rfl rfl ?_)
    simp only [go_sem]
    exact Fits.rfl
  obtain ⟨y, hy, hym, hyd⟩ := drop_at (show n < acc.length by omega)
  have e3 : decide (((n + 1 : Nat) : Int) > 0) = true := by simp
  have e4 : IntKind.i64.wrap (((n + 1 : Nat) : Int) - 1) = (n : Int) := by rw [w64 (by omega) (by omega)]; omega
  have e5 : decide (n < acc.length) = true := by simp; omega
  have e6 : decide ((y.1 : Int) > (id : Int)) = decide (y.1 > id) := by congr 1; simp
  clear hK
  cases hg : decide (y.1 > id)
  · rw [hg] at e6
    repeat' (first | ((show W _ _ _ _); first | refine W.seq fun K hK => ?_ | refine W.block ?_ | ((first | refine wR ?_ | refine wD ?_ | refine W.skip ?_ | refine W.exit ?_ | refine W.ret (Post.ret ?_)); simp only [go_sem, reduceCtorEq, List.getElem?_map, hy, trcA, imL, imR_len, List.length_map, e3, e4, e5, e6]) | refine wT ?_ | refine wF ?_ | refine wC (fun h => ?_) (fun h => ?_)) | ((show AX _ _ _ _ _); (first | refine aP ?_ | refine aF ?_); simp only [go_sem, reduceCtorEq, List.getElem?_map, hy, trcA, imL, imR_len, List.length_map, e3, e4, e5, e6]) | refine iK ?_ | refine aI2 ?_ | (refine hK _ ?_; clear hK K) | clear hK K)
    refine hK2 (n + 1) (by omega) ?_ _ (Fits.fit [(0, 0), (1, 1), (2, 2)] [1, 3, 4, 5, 6] 3 rfl rfl ?_)
    · rw [hinv]
      simp only [decide_eq_false_iff_not] at hg
      simp [posT, hy]
      omega
    · simp only [go_sem]
      exact Fits.rfl
  · rw [hg] at e6
    repeat' (first | ((show W _ _ _ _); first | refine W.seq fun K hK => ?_ | refine W.block ?_ | ((first | refine wR ?_ | refine wD ?_ | refine W.skip ?_ | refine W.exit ?_ | refine W.ret (Post.ret ?_)); simp only [go_sem, reduceCtorEq, List.getElem?_map, hy, trcA, imL, imR_len, List.length_map, e3, e4, e5, e6]) | refine wT ?_ | refine wF ?_ | refine wC (fun h => ?_) (fun h => ?_)) | ((show AX _ _ _ _ _); (first | refine aP ?_ | refine aF ?_); simp only [go_sem, reduceCtorEq, List.getElem?_map, hy, trcA, imL, imR_len, List.length_map, e3, e4, e5, e6]) | refine iK ?_ | refine aI2 ?_ | (refine hK _ ?_; clear hK K) | clear hK K)
    refine hKL2.to n ⟨by omega, ?_⟩ (by simp) (Fits.fit [(0, 0), (1, 1), (2, 2)] [1, 3, 4, 5, 6] 3 rfl rfl ?_)
    · simp only [decide_eq_true_eq] at hg
      rw [hinv]
      simp [posT, hy]
      omega
    · simp only [go_sem]
      exact Fits.rfl
end Go.Proofs.YtegcmciglakicaaGreat
namespace Go.Proofs.YtegcmciglakicaaGreat
open Go.RowKit Go.Exe
set_option linter.unusedVariables false
set_option linter.unusedSimpArgs false
set_option maxHeartbeats 8000000
set_option maxRecDepth 100000
/-! ### the shapes of a story's traces -/
def Xs (sp : List Spn) : Shp := .mk .empty .empty (srt ((lev sp 0).map (shpF sp sp.length)))
mutual
def Shp.sml : Shp → Prop
  | .mk s o ks => s.size ≤ 10 ∧ o.size ≤ 10 ∧ smls ks
def smls : List Shp → Prop
  | [] => True
  | x :: r => x.sml ∧ smls r
end
theorem smls_iff : ∀ {l : List Shp}, smls l ↔ ∀ x ∈ l, x.sml
  | [] => by simp [smls]
  | x :: r => by simp [smls, smls_iff (l := r)]
mutual
theorem sml_key : ∀ x : Shp, x.sml → x.keyW ≤ 47 * x.size
  | .mk s o ks, h => by
    simp only [Shp.sml] at h
    have := smls_key ks h.2.2
    simp only [Shp.keyW, Shp.size]; omega
theorem smls_key : ∀ l : List Shp, smls l → keysW l ≤ 47 * sizes l
  | [], _ => by simp [keysW]
  | x :: r, h => by
    simp only [smls] at h
    have h1 := sml_key x h.1
    have h2 := smls_key r h.2
    simp only [keysW, sizes]; omega
end
theorem shpF_sml {ss : List Spn} (h : ∀ x ∈ ss, x.sv.size ≤ 10 ∧ x.op.size ≤ 10) : ∀ (f : Nat) (id : Int), (shpF ss f id).sml
  | 0, id => by simp [shpF, Shp.sml, smls]
  | f + 1, id => by
    simp only [shpF]
    split
    · rename_i p hp
      have hm := List.mem_of_find?_eq_some hp
      refine ⟨(h p hm).1, (h p hm).2, smls_iff.2 fun x hx => ?_⟩
      obtain ⟨c, _, rfl⟩ := List.mem_map.1 ((srt_perm _).mem_iff.1 hx)
      exact shpF_sml h f c
    · simp [Shp.sml, smls]
theorem Xs_canon (sp : List Spn) : (Xs sp).canon = Xs sp := canon_srt fun x hx => by
  obtain ⟨c, _, rfl⟩ := List.mem_map.1 hx
  exact shpF_canon sp _ c
/-- What a trace of a story is. -/
structure TrOk (x : Trc) : Prop where
  tr : ∀ y ∈ x.2, y.tr = (x.1 : Nat)
  srt : x.2.Pairwise fun a b => a.id < b.id
  int : ∀ s ∈ x.2, I64 s.id ∧ I64 s.pa
  len : x.2.length ≤ 8
  sml : ∀ y ∈ x.2, y.sv.size ≤ 10 ∧ y.op.size ≤ 10
theorem Xs_key {x : Trc} (h : TrOk x) : (Xs x.2).keyW ≤ 1000 := by
  have h1 : (Xs x.2).sml := ⟨by decide, by decide, smls_iff.2 fun y hy => by
    obtain ⟨c, _, rfl⟩ := List.mem_map.1 ((srt_perm _).mem_iff.1 hy)
    exact shpF_sml h.sml _ c⟩
  have h2 := sml_key _ h1
  have h3 := size_all (nodup_sorted h.srt) rfl
  have h4 : (Xs x.2).size = 1 + sizes ((lev x.2 0).map (shpF x.2 x.2.length)) := by
    simp only [Xs, Shp.size]
    rw [sizes_perm' (srt_perm _)]
  have h5 := h.len
  omega
theorem svN_le (n : Nat) : (svN n).size ≤ 10 := by unfold svN; repeat' split
                                                   all_goals decide
theorem opN_le (n : Nat) : (opN n).size ≤ 10 := by unfold opN; repeat' split
                                                   all_goals decide
theorem trs_ok {s : Sto} (hs : s.ok) : ∀ x ∈ trsS s, TrOk x := fun x hx => by
  have h1 := story_trs x hx
  have hgd := story_gd hs
  have hsub : ∀ y ∈ x.2, y ∈ spansS s := fun y hy => List.mem_flatMap.2 ⟨x, hx, hy⟩
  obtain ⟨k, t, _, hk, _, rfl⟩ := trsN_mem hx
  refine ⟨h1, trcS_sorted s k t, fun y hy => (hgd.int y (hsub y hy)).2, by rw [trcS_len]; exact (hs.1 t (List.mem_of_getElem? hk)).2.2.2, fun y hy => ?_⟩
  obtain ⟨i, c, hi, rfl⟩ := trcS_mem hy
  exact ⟨svN_le _, opN_le _⟩
section
variable (c141 : SortC Tryz.prog 141 14) (c60 : SortI Tryz.prog 60) (g62 : GrowC Tryz.prog 62 3 1 8) (c36 : SortC Tryz.prog 36 3)
include c141 c60 g62
theorem tr_c18 {x : Trc} (h : TrOk x) : PCall Tryz.prog 18 [spsT x.2, ft (.int .i64 (x.1 : Nat))] (shT (Xs x.2)) := by
  have := traceM_c c141 c60 g62 (x.1 : Nat) x.2 x.2 (ofS_fix h.tr h.srt) h.srt h.int (bestS_one h.tr (nodup_sorted h.srt))
  rw [traceM_eq] at this
  exact this
include c36
theorem tr_c12 {x : Trc} (h : TrOk x) : PCall Tryz.prog 12 [spsT x.2, ft (.int .i64 (x.1 : Nat))] (shT (Xs x.2)) :=
  trace_c c141 c60 g62 c36 x.2 (x.1 : Nat) x.2 (ofS_fix h.tr h.srt) h.srt h.int
end
theorem tr_c49 (c36 : SortC Tryz.prog 36 3) {x : Trc} (h : TrOk x) : PCall Tryz.prog 49 [shT (Xs x.2)] (ft (.string ⟨(Xs x.2).keyB.toArray⟩)) := by
  have h1 := Xs_key h
  have c26 : PCall Tryz.prog 26 [shT (Xs x.2)] (shT (Xs x.2).canon) := all12 c36 (Xs x.2)
  have := key_c (Xs x.2) c26 (by rw [Xs_canon]; omega)
  rwa [Xs_canon] at this
/-! ### weights, set one after the other -/
def twN (l : List Trc) (g : Nat → Nat) (i : Nat) : List Trw := l.zipIdx.map fun y => ⟨y.1.1, if y.2 < i then g y.2 else 1, y.1.2⟩
theorem twN_get {l : List Trc} {g : Nat → Nat} {i j : Nat} {x : Trc} (h : l[j]? = some x) : (twN l g i)[j]? = some ⟨x.1, if j < i then g j else 1, x.2⟩ := by
  have : l.zipIdx[j]? = some (x, j) := by simp [List.getElem?_zipIdx, h]
  simp [twN, this]
theorem twN_len (l : List Trc) (g : Nat → Nat) (i : Nat) : (twN l g i).length = l.length := by simp [twN]
theorem twN_set {l : List Trc} {g : Nat → Nat} {i : Nat} {x : Trc} (h : l[i]? = some x) : (twN l g i).set i ⟨x.1, g i, x.2⟩ = twN l g (i + 1) := by
  apply List.ext_getElem?
  intro j
  have hil := (List.getElem?_eq_some_iff.1 h).1
  by_cases hj : j < l.length
  · have hjx := List.getElem?_eq_getElem hj
    rw [twN_get hjx, List.getElem?_set]
    by_cases e : i = j
    · subst e
      rw [if_pos rfl, if_pos (by rw [twN_len]; exact hil)]
      rw [h] at hjx
      rw [← Option.some.inj hjx, if_pos (by omega)]
    · rw [if_neg e, twN_get hjx]
      by_cases h2 : j < i
      · rw [if_pos h2, if_pos (by omega)]
      · rw [if_neg h2, if_neg (by omega)]
  · rw [List.getElem?_eq_none (by simp [twN_len]; omega), List.getElem?_eq_none (by rw [twN_len]; omega)]
theorem twN_0 (l : List Trc) (g : Nat → Nat) : (twN l g 0).map twA = l.map trcA := by
  apply List.ext_getElem?
  intro j
  cases h : l[j]? with
  | none =>
    rw [List.getElem?_eq_none (by simp [twN_len]; exact List.getElem?_eq_none_iff.1 h), List.getElem?_map, h]; rfl
  | some x => rw [List.getElem?_map, twN_get h, List.getElem?_map, h]; rfl
theorem twN_mem {l : List Trc} {g : Nat → Nat} {i : Nat} {y : Trw} (h : y ∈ twN l g i) : ∃ j x, l[j]? = some x ∧ y = ⟨x.1, if j < i then g j else 1, x.2⟩ := by
  obtain ⟨j, hj⟩ := List.getElem?_of_mem h
  have hl := (List.getElem?_eq_some_iff.1 hj).1
  rw [twN_len] at hl
  have hx := List.getElem?_eq_getElem hl
  rw [twN_get hx] at hj
  exact ⟨j, _, hx, (Option.some.inj hj).symm⟩
end Go.Proofs.YtegcmciglakicaaGreat
namespace Go.Proofs.YtegcmciglakicaaGreat
open Go.RowKit Go.Exe
set_option linter.unusedVariables false
set_option linter.unusedSimpArgs false
set_option maxHeartbeats 8000000
set_option maxRecDepth 100000
/-- The four numbers that weights come of. -/
structure Ws where
  b0 : Nat
  b1 : Nat
  b2 : Nat
  b3 : Nat
def Ws.ok (b : Ws) : Prop := b.b0 < 256 ∧ b.b1 < 256 ∧ b.b2 < 256 ∧ b.b3 < 256
def wsC (b : Ws) : List Cell := [fl (.int .u8 (b.b0 : Nat)), fl (.int .u8 (b.b1 : Nat)), fl (.int .u8 (b.b2 : Nat)), fl (.int .u8 (b.b3 : Nat))]
def Ws.at (b : Ws) (j : Nat) : Nat := if j = 0 then b.b0 else if j = 1 then b.b1 else if j = 2 then b.b2 else b.b3
def Ws.wgt (b : Ws) (i : Nat) : Nat := 1 + b.at (i % 4) % 8
theorem ws_get (b : Ws) (j : Nat) (h : j < 4) : List.take 1 (List.drop j [fl (.int .u8 (b.b0 : Nat)), fl (.int .u8 (b.b1 : Nat)), fl (.int .u8 (b.b2 : Nat)), fl (.int .u8 (b.b3 : Nat))]) = [fl (.int .u8 (b.at j : Nat))] := by
  rcases (by omega : j = 0 ∨ j = 1 ∨ j = 2 ∨ j = 3) with rfl | rfl | rfl | rfl <;> rfl
theorem Ws.ok.at {b : Ws} (h : b.ok) (j : Nat) : b.at j < 256 := by
  obtain ⟨h0, h1, h2, h3⟩ := h
  unfold Ws.at
  repeat' split
  all_goals assumption
theorem cnA_mk (s o : ByteArray) (ks : List Shp) (t w : Nat) : cnA ⟨.mk s o ks, t, w⟩ = [.flat (.string s), .flat (.string o), .sl 41 (avs ks), .flat (.int .i64 (t : Nat)), .flat (.int .i64 (w : Nat))] := by simp [cnA, Shp.av]
attribute [local irreducible] W AX Run RunD AStep AOp AOpX AStB AStH AStG Fits PCall GCall PostG Post Stop
theorem countsL_c (c141 : SortC Tryz.prog 141 14) (c60 : SortI Tryz.prog 60) (g62 : GrowC Tryz.prog 62 3 1 8) (c36 : SortC Tryz.prog 36 3) (c89 : SortC Tryz.prog 89 2) (c50 : SortC Tryz.prog 50 5) (s : Sto) (hsB : s.okB) (b : Ws) (hb : b.ok) :
    PCall Tryz.prog 6 [stoT s, .g (wsC b)] (ft (.bool true)) := by
  have c7 := known_all c36 c89
  have c8 := short_c s
  cases hsh : shortS s
  · rw [hsh] at c8
    simp only [stoT, stoA, wsC, List.map] at c8 ⊢
    refine PCall.intro (nt := 215) (rs := [.tmp 4]) Tryz.func6 rfl ⟨by kernel_rfl, by kernel_rfl, by kernel_rfl⟩ (by simp) ?_
    rintro ⟨P, w0, ok0, may, np, pblk⟩ rfl rfl
    repeat' (first | ((show W _ _ _ _); first | refine W.seq fun K hK => ?_ | refine W.block ?_ | ((first | refine wR ?_ | refine wD ?_ | refine W.skip ?_ | refine W.exit ?_ | refine W.ret (Post.ret ?_)); simp only [go_sem, reduceCtorEq]) | refine wT ?_ | refine wF ?_ | refine wC (fun h => ?_) (fun h => ?_)) | ((show AX _ _ _ _ _); (first | refine aP ?_ | refine aF ?_ | refine aL ?_ | refine aU ?_ | refine aM ?_ | refine aN ?_ | refine aR ?_ | refine aV ?_); simp only [go_sem, reduceCtorEq]) | refine iK ?_ | refine aI2 ?_ | (refine hK _ ?_; clear hK K) | clear hK K)
  have hs := hsB.ok hsh
  rw [hsh] at c8
  have c22 := traces_g s hs
  have hto := trs_ok hs
  have h3 : (trsS s).length ≤ 3 := Nat.le_trans (trsN_len s _) hs.2.2.2.2.2.2
  clear hsh
  simp only [stoT, stoA, wsC, List.map] at c8 c22 ⊢
  generalize trsS s = l0 at c22 hto h3
  have e0 : IntKind.i64.wrap ((l0.length / 2 : Nat) : Int) = ((l0.length / 2 : Nat) : Int) := w64n _ (by omega)
  have e00 : Int.tdiv (l0.length : Int) 2 = ((l0.length / 2 : Nat) : Int) := td _ 2
  have f1 : decide (l0.length / 2 ≤ l0.length) = true := by simp; omega
  have f2 : decide (0 + l0.length / 2 ≤ l0.length) = true := by simp; omega
  refine PCall.intro (nt := 215) (rs := [.tmp 4]) Tryz.func6 rfl ⟨by kernel_rfl, by kernel_rfl, by kernel_rfl⟩ (by simp) ?_
  rintro ⟨P, w0, ok0, may, np, pblk⟩ rfl rfl
  repeat' (first | ((show W _ _ _ _); first | refine W.seq fun K hK => ?_ | refine W.block ?_ | ((first | refine wR ?_ | refine wD ?_ | refine W.skip ?_ | refine W.exit ?_ | refine W.ret (Post.ret ?_)); simp only [go_sem, reduceCtorEq]) | refine wT ?_ | refine wF ?_ | refine wC (fun h => ?_) (fun h => ?_)) | ((show AX _ _ _ _ _); (first | refine aP ?_ | refine aF ?_ | refine aL ?_ | refine aU ?_ | refine aM ?_ | refine aN ?_ | refine aR ?_ | refine aV ?_); simp only [go_sem, reduceCtorEq]) | refine iK ?_ | refine aI2 ?_ | (refine hK _ ?_; clear hK K) | clear hK K)
  refine AX.gcall [] rfl rfl (c22) (by simp only [go_sem, reduceCtorEq]) (by simp only [go_sem, reduceCtorEq]) rfl rfl (by simp only [go_sem, Obj.owns]) rfl (by simp only [go_sem, Obj.owns]) rfl rfl ?_
  simp only [go_sem, reduceCtorEq]
  repeat' (first | ((show W _ _ _ _); first | refine W.seq fun K hK => ?_ | refine W.block ?_ | ((first | refine wR ?_ | refine wD ?_ | refine W.skip ?_ | refine W.exit ?_ | refine W.ret (Post.ret ?_)); simp only [go_sem, reduceCtorEq, List.length_map, imR_len, e0, e00, f1, f2, Nat.sub_zero, List.length_take]) | refine wT ?_ | refine wF ?_ | refine wC (fun h => ?_) (fun h => ?_)) | ((show AX _ _ _ _ _); (first | refine aP ?_ | refine aF ?_ | refine aL ?_ | refine aU (hnn := by simp only [go_sem, reduceCtorEq, List.length_map, imR_len, e0, e00, f1, f2, Nat.sub_zero, List.length_take]) ?_ | refine aM ?_ | refine aN ?_ | refine aR ?_ | refine aV ?_); simp only [go_sem, reduceCtorEq, List.length_map, imR_len, e0, e00, f1, f2, Nat.sub_zero, List.length_take]) | refine iK ?_ | refine aI2 ?_ | (refine hK _ ?_; clear hK K) | clear hK K)
  have hm2 : ∀ x ∈ l0 ++ l0.take (l0.length / 2), TrOk x := fun x hx => by
    rcases List.mem_append.1 hx with h | h
    · exact hto x h
    · exact hto x (List.mem_of_mem_take h)
  have hl2 : (l0 ++ l0.take (l0.length / 2)).length ≤ 4 := by rw [List.length_append, List.length_take]; omega
  have hrow : imR (l0.map trcA) ++ imR ((l0.map trcA).take (l0.length / 2)) = imR ((twN (l0 ++ l0.take (l0.length / 2)) b.wgt 0).map twA) := by rw [twN_0]; simp [imR]
  refine W.loopF (T := fun i : Nat => { t := [(3, .c (.ptr 0 0)), (4, ft (.bool false)), (5, .c (.ref 1)), (6, .c (.ref 2)), (7, ft (.int .i64 (i : Nat)))], h := [(0, .box 69 [fl (.int .u8 (b.b0 : Nat)), fl (.int .u8 (b.b1 : Nat)), fl (.int .u8 (b.b2 : Nat)), fl (.int .u8 (b.b3 : Nat))]), (1, .row 74 (imR ((twN (l0 ++ l0.take (l0.length / 2)) b.wgt i).map twA))), (2, .row 76 (imR ((cntN ((tshs (fun x => Xs x.sp) (twN (l0 ++ l0.take (l0.length / 2)) b.wgt (l0 ++ l0.take (l0.length / 2)).length)).take i)).map cnA)))], nx := 3, ex := [], nt := 215 })
    (Inv := fun i => i ≤ (l0 ++ l0.take (l0.length / 2)).length) (μ := fun i => (l0 ++ l0.take (l0.length / 2)).length - i) (x0 := 0) ?_ (Nat.zero_le _) ?_
  · refine Fits.adopt 6 99 76 rfl rfl rfl tE76 rfl ?_
    refine Fits.fit [(1, 0), (19, 1), (99, 2)] [3, 4, 5, 6, 7] 3 rfl rfl ?_
    simp only [go_sem, hrow, List.take_zero, cntN, List.foldl_nil, List.map_nil, imR_nil]
    exact Fits.rfl
  clear hrow e0 e00 f1 f2 h3 c22 c7 c8 hto
  generalize l0 ++ l0.take (l0.length / 2) = l2 at hm2 hl2 ⊢
  obtain ⟨lw, hlw⟩ : ∃ lw, lw = twN l2 b.wgt l2.length := ⟨_, rfl⟩
  have hwl : lw.length = l2.length := by rw [hlw, twN_len]
  have hwg : ∀ j, b.wgt j ≤ 8 := fun j => by unfold Ws.wgt; omega
  have hlt8 : ∀ y ∈ lw, y.w ≤ 8 := fun y hy => by
    rw [hlw] at hy
    obtain ⟨j, z, hz, rfl⟩ := twN_mem hy
    have := (List.getElem?_eq_some_iff.1 hz).1
    simp only [this, if_true]
    exact hwg j
  have hlk : ∀ y ∈ lw, ∃ z ∈ l2, y.sp = z.2 ∧ y.id = z.1 := fun y hy => by
    rw [hlw] at hy
    obtain ⟨j, z, hz, rfl⟩ := twN_mem hy
    exact ⟨z, List.mem_of_getElem? hz, rfl, rfl⟩
  rw [← hlw]
  rintro i hi KL hKL
  have hcb := cntN_b ((tshs (fun x => Xs x.sp) lw).take i) (fun p hp => by
    obtain ⟨y, hy, rfl⟩ := List.mem_map.1 (List.mem_of_mem_take hp)
    exact hlt8 y hy)
  have htl : ((tshs (fun x => Xs x.sp) lw).take i).length ≤ 4 := by rw [List.length_take]; omega
  have hns := cntN_sh ((tshs (fun x => Xs x.sp) lw).take i)
  by_cases hlt : i < l2.length
  · obtain ⟨x, hx, hm, hd⟩ := drop_at hlt
    have e1 : decide ((i : Int) < l2.length) = true := by simp; omega
    have hwi := w64s i (by omega)
    have hti : (twN l2 b.wgt i)[i]? = some ⟨x.1, 1, x.2⟩ := by rw [twN_get hx]; simp
    have hti1 : (twN l2 b.wgt (i + 1))[i]? = some ⟨x.1, b.wgt i, x.2⟩ := by rw [twN_get hx]; simp
    have htn : (twN l2 b.wgt i).length = l2.length := twN_len _ _ _
    have htn1 : (twN l2 b.wgt (i + 1)).length = l2.length := twN_len _ _ _
    have hset : (imR ((twN l2 b.wgt i).map twA)).set i [.im (.flat (.int .i64 (x.1 : Nat))), .im (.flat (.int .i64 (b.wgt i : Nat))), .im (.sl 35 (x.2.map spA))] = imR ((twN l2 b.wgt (i + 1)).map twA) := by
      rw [← twN_set hx]; simp [imR, imL, twA, List.map_set]
    have hat := cntN_at (l := tshs (fun x => Xs x.sp) lw) (i := i) (p := (Xs x.2, b.wgt i)) (by
      have : lw[i]? = some ⟨x.1, b.wgt i, x.2⟩ := by rw [hlw, twN_get hx]; simp [hlt]
      simp [tshs, this])
    have c18 := tr_c18 c141 c60 g62 (hm2 x hm)
    have d1 : decide (i % 4 ≤ 3) = true := by simp; omega
    have d2 : decide (i < l2.length) = true := by simp; omega
    have d3 : 0 + Int.toNat ((i % 4 : Nat) : Int) * 1 = i % 4 := by rw [Int.toNat_natCast]; omega
    have d4 := ws_get b (i % 4) (by omega)
    have hb4 := hb.at (i % 4)
    have q1 := w64n (b.at (i % 4)) (by omega)
    have q2 : IntKind.i64.wrap (1 + ((b.at (i % 4) % 8 : Nat) : Int)) = ((b.wgt i : Nat) : Int) := wadd 1 _ (by omega)
    have hA : Tryz.prog.underlying 69 = some (.array 4 5) := by kernel_rfl
    have hE := tE5
    have hN : EL Tryz.prog 69 = none := by kernel_rfl
    have hgi := hwg i
    simp only at hat
    obtain ⟨cs1, hcs1⟩ : ∃ c, c = cntN ((tshs (fun x => Xs x.sp) lw).take (i + 1)) := ⟨_, rfl⟩
    rw [← hcs1] at hat
    generalize cntN ((tshs (fun x => Xs x.sp) lw).take i) = cs at hat hcb hns ⊢
    obtain ⟨⟨sx, ox, kx⟩, hxs⟩ : ∃ y, y = Xs x.2 := ⟨_, rfl⟩
    rw [← hxs] at hat c18
    simp only [shT_mk] at c18
    repeat' (first | ((show W _ _ _ _); first | refine W.seq fun K hK => ?_ | refine W.block ?_ | ((first | refine wR ?_ | refine wD ?_ | refine W.skip ?_ | refine W.exit ?_ | refine W.ret (Post.ret ?_)); simp only [go_sem, reduceCtorEq, List.getElem?_map, List.length_map, imR_len, e1, htn, htn1, tm4, tm8, d1, d2, d3, Nat.mul_one, d4, q1, q2, hN, hti, hti1, twA, imL, hset]) | refine wT ?_ | refine wF ?_ | refine wC (fun h => ?_) (fun h => ?_)) | ((show AX _ _ _ _ _); (first | refine aP ?_ | refine aF ?_ | refine aL ?_ | refine aU (hnn := by simp only [go_sem, reduceCtorEq, List.getElem?_map, List.length_map, imR_len, e1, htn, htn1, tm4, tm8, d1, d2, d3, Nat.mul_one, d4, q1, q2, hN, hti, hti1, twA, imL, hset]) ?_ | refine aM ?_ | refine aN ?_ | refine aR ?_ | refine aV ?_); simp only [go_sem, reduceCtorEq, List.getElem?_map, List.length_map, imR_len, e1, htn, htn1, tm4, tm8, d1, d2, d3, Nat.mul_one, d4, q1, q2, hN, hti, hti1, twA, imL, hset]) | refine iK ?_ | refine aI2 ?_ | (refine hK _ ?_; clear hK K) | clear hK K)
    have hK2 : ∀ k : Nat, k ≤ cs.length → (∀ j c, j < k → cs[j]? = some c → c.sh ≠ .mk sx ox kx) → (k < cs.length → ∃ c, cs[k]? = some c ∧ c.sh = .mk sx ox kx) → ∀ s1 : St, Fits ⟨Tryz.prog, w0, ok0, may, 0, pblk⟩ s1 { t := [(3, .c (.ptr 0 0)), (4, ft (.bool false)), (5, .c (.ref 1)), (6, .c (.ref 2)), (7, ft (.int .i64 (i : Nat))), (8, .c (.ptr 3 0)), (9, ft (.int .i64 (k : Nat)))], h := [(0, .box 69 [fl (.int .u8 (b.b0 : Nat)), fl (.int .u8 (b.b1 : Nat)), fl (.int .u8 (b.b2 : Nat)), fl (.int .u8 (b.b3 : Nat))]), (1, .row 74 (imR ((twN l2 b.wgt (i + 1)).map twA))), (2, .row 76 (imR (cs.map cnA))), (3, .box 41 [fl (.string sx), fl (.string ox), .im (.sl 41 (avs kx))])], nx := 4, ex := [], nt := 215 } → K s1 := by
      intro k hk hno hyes s1 hf
      refine hK _ (W.fits hf ?_); clear hK K
      have d5 : decide (k < cs.length) = decide (k < cs.length) := rfl
      by_cases hkl : k < cs.length
      · obtain ⟨c, hc, hce⟩ := hyes hkl
        obtain ⟨shc, tc, wc⟩ := c
        simp only at hce
        subst hce
        have hcb1 := hcb.1 _ (List.mem_of_getElem? hc)
        simp only at hcb1
        have g1 : (((k : Nat) : Int) == ((cs.length : Nat) : Int)) = false := by simp; omega
        have g2 : decide (k < cs.length) = true := by simp; exact hkl
        have w1 : IntKind.i64.wrap (((tc : Nat) : Int) + 1) = ((tc + 1 : Nat) : Int) := w64s tc (by omega)
        have w2 := wadd wc (b.wgt i) (by omega)
        have hadd := addN_at (w := b.wgt i) hns hc rfl
        rw [hadd] at hat
        have hcA := cnA_mk sx ox kx
        have s1 : ((imR (cs.map cnA)).set k [.im (.flat (.string sx)), .im (.flat (.string ox)), .im (.sl 41 (avs kx)), .im (.flat (.int .i64 (tc + 1 : Nat))), .im (.flat (.int .i64 (wc : Nat)))]) = imR ((cs.set k ⟨.mk sx ox kx, tc + 1, wc⟩).map cnA) := by simp [imR, imL, hcA, List.map_set]
        have s2 : ((imR ((cs.set k ⟨.mk sx ox kx, tc + 1, wc⟩).map cnA)).set k [.im (.flat (.string sx)), .im (.flat (.string ox)), .im (.sl 41 (avs kx)), .im (.flat (.int .i64 (tc + 1 : Nat))), .im (.flat (.int .i64 (wc + b.wgt i : Nat)))]) = imR ((cs.set k ⟨.mk sx ox kx, tc + 1, wc + b.wgt i⟩).map cnA) := by simp [imR, imL, hcA, List.map_set]
        have h2 : (cs.set k ⟨.mk sx ox kx, tc + 1, wc⟩)[k]? = some ⟨.mk sx ox kx, tc + 1, wc⟩ := List.getElem?_set_self hkl
        clear c18
        repeat' (first | ((show W _ _ _ _); first | refine W.seq fun K hK => ?_ | refine W.block ?_ | ((first | refine wR ?_ | refine wD ?_ | refine W.skip ?_ | refine W.exit ?_ | refine W.ret (Post.ret ?_)); simp only [go_sem, reduceCtorEq, List.getElem?_map, List.length_map, List.length_set, imR_len, g1, g2, hc, hcA, imL, w1, w2, s1, s2, h2, hti1, twA, htn1, d2, hwi]) | refine wT ?_ | refine wF ?_ | refine wC (fun h => ?_) (fun h => ?_)) | ((show AX _ _ _ _ _); (first | refine aP ?_ | refine aF ?_ | refine aL ?_ | refine aU (hnn := by simp only [go_sem, reduceCtorEq, List.getElem?_map, List.length_map, List.length_set, imR_len, g1, g2, hc, hcA, imL, w1, w2, s1, s2, h2, hti1, twA, htn1, d2, hwi]) ?_ | refine aM ?_ | refine aN ?_ | refine aR ?_ | refine aV ?_); simp only [go_sem, reduceCtorEq, List.getElem?_map, List.length_map, List.length_set, imR_len, g1, g2, hc, hcA, imL, w1, w2, s1, s2, h2, hti1, twA, htn1, d2, hwi]) | refine iK ?_ | refine aI2 ?_ | (refine hK _ ?_; clear hK K) | clear hK K)
        refine hKL.to (i + 1) (by omega) (by omega) (Fits.fit [(0, 0), (1, 1), (2, 2)] [3, 4, 5, 6, 7] 3 rfl rfl ?_)
        simp only [go_sem, ← hcs1, hat]
        exact Fits.rfl
      · obtain rfl : k = cs.length := by omega
        have hno' : ∀ c ∈ cs, c.sh ≠ .mk sx ox kx := fun c hc => by
          obtain ⟨j, hj⟩ := List.getElem?_of_mem hc
          exact hno j c (List.getElem?_eq_some_iff.1 hj).1 hj
        have hadd := addN_none (w := b.wgt i) hno'
        rw [hadd] at hat
        have g1 : (((cs.length : Nat) : Int) == ((cs.length : Nat) : Int)) = true := by simp
        have hcA := cnA_mk sx ox kx
        have hsn : imR (cs.map cnA) ++ [[.im (.flat (.string sx)), .im (.flat (.string ox)), .im (.sl 41 (avs kx)), .im (.flat (.int .i64 0)), .im (.flat (.int .i64 0))]] = imR ((cs ++ [(⟨.mk sx ox kx, 0, 0⟩ : Cnt)]).map cnA) := by simp [imR, imL, hcA]
        have w1 : IntKind.i64.wrap (((0 : Nat) : Int) + 1) = ((1 : Nat) : Int) := w64s 0 (by omega)
        have w2 := wadd 0 (b.wgt i) (by omega)
        rw [Nat.zero_add] at w2
        have hcl : cs.length < (cs ++ [(⟨.mk sx ox kx, 0, 0⟩ : Cnt)]).length := by simp
        have hc : (cs ++ [(⟨.mk sx ox kx, 0, 0⟩ : Cnt)])[cs.length]? = some ⟨.mk sx ox kx, 0, 0⟩ := by simp
        have g2 : decide (cs.length < (cs ++ [(⟨.mk sx ox kx, 0, 0⟩ : Cnt)]).length) = true := decide_eq_true hcl
        have hfin : (cs ++ [(⟨.mk sx ox kx, 0, 0⟩ : Cnt)]).set cs.length ⟨.mk sx ox kx, 1, b.wgt i⟩ = cs ++ [⟨.mk sx ox kx, 1, b.wgt i⟩] := by simp
        rw [← hfin] at hat
        generalize cs ++ [(⟨.mk sx ox kx, 0, 0⟩ : Cnt)] = cz at hsn hcl hc g2 hat
        have s1 : ((imR (cz.map cnA)).set cs.length [.im (.flat (.string sx)), .im (.flat (.string ox)), .im (.sl 41 (avs kx)), .im (.flat (.int .i64 (1 : Nat))), .im (.flat (.int .i64 (0 : Nat)))]) = imR ((cz.set cs.length ⟨.mk sx ox kx, 1, 0⟩).map cnA) := by simp [imR, imL, hcA, List.map_set]
        have s2 : ((imR ((cz.set cs.length ⟨.mk sx ox kx, 1, 0⟩).map cnA)).set cs.length [.im (.flat (.string sx)), .im (.flat (.string ox)), .im (.sl 41 (avs kx)), .im (.flat (.int .i64 (1 : Nat))), .im (.flat (.int .i64 (b.wgt i : Nat)))]) = imR ((cz.set cs.length ⟨.mk sx ox kx, 1, b.wgt i⟩).map cnA) := by simp [imR, imL, hcA, List.map_set]
        have h2 : (cz.set cs.length ⟨.mk sx ox kx, 1, 0⟩)[cs.length]? = some ⟨.mk sx ox kx, 1, 0⟩ := List.getElem?_set_self hcl
        clear c18 hfin
        repeat' (first | ((show W _ _ _ _); first | refine W.seq fun K hK => ?_ | refine W.block ?_ | ((first | refine wR ?_ | refine wD ?_ | refine W.skip ?_ | refine W.exit ?_ | refine W.ret (Post.ret ?_)); simp only [go_sem, reduceCtorEq, List.getElem?_map, List.length_map, List.length_set, imR_len, g1, g2, hc, hcA, imL, w1, w2, hsn, s1, s2, h2, hti1, twA, htn1, d2, hwi]) | refine wT ?_ | refine wF ?_ | refine wC (fun h => ?_) (fun h => ?_)) | ((show AX _ _ _ _ _); (first | refine aP ?_ | refine aF ?_ | refine aL ?_ | refine aU (hnn := by simp only [go_sem, reduceCtorEq, List.getElem?_map, List.length_map, List.length_set, imR_len, g1, g2, hc, hcA, imL, w1, w2, hsn, s1, s2, h2, hti1, twA, htn1, d2, hwi]) ?_ | refine aM ?_ | refine aN ?_ | refine aR ?_ | refine aV ?_); simp only [go_sem, reduceCtorEq, List.getElem?_map, List.length_map, List.length_set, imR_len, g1, g2, hc, hcA, imL, w1, w2, hsn, s1, s2, h2, hti1, twA, htn1, d2, hwi]) | refine iK ?_ | refine aI2 ?_ | (refine hK _ ?_; clear hK K) | clear hK K)
        refine hKL.to (i + 1) (by omega) (by omega) (Fits.fit [(0, 0), (1, 1), (12, 2)] [3, 4, 5, 6, 7] 3 rfl rfl ?_)
        simp only [go_sem, ← hcs1, hat]
        exact Fits.rfl
    refine W.loopF (T := fun k : Nat => { t := [(3, .c (.ptr 0 0)), (4, ft (.bool false)), (5, .c (.ref 1)), (6, .c (.ref 2)), (7, ft (.int .i64 (i : Nat))), (8, .c (.ptr 3 0)), (9, ft (.int .i64 (k : Nat)))], h := [(0, .box 69 [fl (.int .u8 (b.b0 : Nat)), fl (.int .u8 (b.b1 : Nat)), fl (.int .u8 (b.b2 : Nat)), fl (.int .u8 (b.b3 : Nat))]), (1, .row 74 (imR ((twN l2 b.wgt (i + 1)).map twA))), (2, .row 76 (imR (cs.map cnA))), (3, .box 41 [fl (.string sx), fl (.string ox), .im (.sl 41 (avs kx))])], nx := 4, ex := [], nt := 215 })
      (Inv := fun k => k ≤ cs.length ∧ ∀ j c, j < k → cs[j]? = some c → c.sh ≠ .mk sx ox kx) (μ := fun k => cs.length - k) (x0 := 0) (Fits.fit [(0, 0), (1, 1), (2, 2), (30, 3)] [3, 4, 5, 6, 7, 8, 9] 4 rfl rfl ?_) ⟨Nat.zero_le _, fun j c hj => by omega⟩ ?_
    · simp only [go_sem]
      exact Fits.rfl
    clear c18
    rintro k ⟨hk, hno⟩ KL2 hKL2
    by_cases hkl : k < cs.length
    · obtain ⟨⟨⟨s', o', ks'⟩, tc, wc⟩, hc, hcm, _⟩ := drop_at hkl
      have g1 : decide ((k : Int) < (cs.length : Int)) = true := by simp; exact hkl
      have g2 : decide (k < cs.length) = true := by simp; exact hkl
      have hwk := w64s k (by omega)
      have hcA := cnA_mk s' o' ks'
      have c11 := all11 (.mk s' o' ks') (.mk sx ox kx)
      simp only [shT_mk] at c11
      clear hK
      cases hsm : (Shp.mk s' o' ks').same (.mk sx ox kx)
      · rw [hsm] at c11
        repeat' (first | ((show W _ _ _ _); first | refine W.seq fun K hK => ?_ | refine W.block ?_ | ((first | refine wR ?_ | refine wD ?_ | refine W.skip ?_ | refine W.exit ?_ | refine W.ret (Post.ret ?_)); simp only [go_sem, reduceCtorEq, List.getElem?_map, List.length_map, imR_len, g1, g2, hc, hcA, imL, hwk]) | refine wT ?_ | refine wF ?_ | refine wC (fun h => ?_) (fun h => ?_)) | ((show AX _ _ _ _ _); (first | refine aP ?_ | refine aF ?_ | refine aL ?_ | refine aU (hnn := by simp only [go_sem, reduceCtorEq, List.getElem?_map, List.length_map, imR_len, g1, g2, hc, hcA, imL, hwk]) ?_ | refine aM ?_ | refine aN ?_ | refine aR ?_ | refine aV ?_); simp only [go_sem, reduceCtorEq, List.getElem?_map, List.length_map, imR_len, g1, g2, hc, hcA, imL, hwk]) | refine iK ?_ | refine aI2 ?_ | (refine hK _ ?_; clear hK K) | clear hK K)
        refine hKL2.to (k + 1) ⟨by omega, fun j c hj hjc => ?_⟩ (by omega) (Fits.fit [(0, 0), (1, 1), (2, 2), (3, 3)] [3, 4, 5, 6, 7, 8, 9] 4 rfl rfl ?_)
        · by_cases e : j = k
          · subst e
            rw [hc] at hjc
            cases hjc
            intro e
            simp only at e
            rw [same_iff.2 e] at hsm
            cases hsm
          · exact hno j c (by omega) hjc
        · simp only [go_sem]
          exact Fits.rfl
      · rw [hsm] at c11
        repeat' (first | ((show W _ _ _ _); first | refine W.seq fun K hK => ?_ | refine W.block ?_ | ((first | refine wR ?_ | refine wD ?_ | refine W.skip ?_ | refine W.exit ?_ | refine W.ret (Post.ret ?_)); simp only [go_sem, reduceCtorEq, List.getElem?_map, List.length_map, imR_len, g1, g2, hc, hcA, imL]) | refine wT ?_ | refine wF ?_ | refine wC (fun h => ?_) (fun h => ?_)) | ((show AX _ _ _ _ _); (first | refine aP ?_ | refine aF ?_ | refine aL ?_ | refine aU (hnn := by simp only [go_sem, reduceCtorEq, List.getElem?_map, List.length_map, imR_len, g1, g2, hc, hcA, imL]) ?_ | refine aM ?_ | refine aN ?_ | refine aR ?_ | refine aV ?_); simp only [go_sem, reduceCtorEq, List.getElem?_map, List.length_map, imR_len, g1, g2, hc, hcA, imL]) | refine iK ?_ | refine aI2 ?_ | (refine hK _ ?_; clear hK K) | clear hK K)
        refine hK2 k (by omega) hno (fun _ => ⟨_, hc, same_eq _ _ hsm⟩) _ (Fits.fit [(0, 0), (1, 1), (2, 2), (3, 3)] [3, 4, 5, 6, 7, 8, 9] 4 rfl rfl ?_)
        simp only [go_sem]
        exact Fits.rfl
    · have g1 : decide ((k : Int) < (cs.length : Int)) = false := by simp; omega
      clear hK
      repeat' (first | ((show W _ _ _ _); first | refine W.seq fun K hK => ?_ | refine W.block ?_ | ((first | refine wR ?_ | refine wD ?_ | refine W.skip ?_ | refine W.exit ?_ | refine W.ret (Post.ret ?_)); simp only [go_sem, reduceCtorEq, List.length_map, imR_len, g1]) | refine wT ?_ | refine wF ?_ | refine wC (fun h => ?_) (fun h => ?_)) | ((show AX _ _ _ _ _); (first | refine aP ?_ | refine aF ?_ | refine aL ?_ | refine aU (hnn := by simp only [go_sem, reduceCtorEq, List.length_map, imR_len, g1]) ?_ | refine aM ?_ | refine aN ?_ | refine aR ?_ | refine aV ?_); simp only [go_sem, reduceCtorEq, List.length_map, imR_len, g1]) | refine iK ?_ | refine aI2 ?_ | (refine hK _ ?_; clear hK K) | clear hK K)
      refine hK2 k hk hno (fun h => absurd h hkl) _ (Fits.fit [(0, 0), (1, 1), (2, 2), (3, 3)] [3, 4, 5, 6, 7, 8, 9] 4 rfl rfl ?_)
      simp only [go_sem]
      exact Fits.rfl
  obtain rfl : i = l2.length := by omega
  have e1 : decide ((l2.length : Int) < l2.length) = false := by simp
  clear hKL hcb hns htl
  rw [show (tshs (fun x => Xs x.sp) lw).take l2.length = tshs (fun x => Xs x.sp) lw by rw [← hwl, show lw.length = (tshs (fun x => Xs x.sp) lw).length by simp [tshs], List.take_length], ← hlw]
  have c23 := counts_c c50 lw (fun x => Xs x.sp) (by omega) hlt8 (fun y hy => by
      obtain ⟨z, hz, h1, h2⟩ := hlk y hy
      have := Xs_key (hm2 z hz)
      simp only [h1]; omega) (fun y hy => by
      obtain ⟨z, hz, h1, h2⟩ := hlk y hy
      simp only [h1, h2]
      exact tr_c12 c141 c60 g62 c36 (hm2 z hz)) (fun y hy => by
      obtain ⟨z, hz, h1, h2⟩ := hlk y hy
      simp only [h1]
      exact tr_c49 c36 (hm2 z hz))
  have hns := cntN_sh (tshs (fun x => Xs x.sp) lw)
  have hcb := cntN_b (tshs (fun x => Xs x.sp) lw) (fun p hp => by
    obtain ⟨y, hy, rfl⟩ := List.mem_map.1 hp
    exact hlt8 y hy)
  have htl : (tshs (fun x => Xs x.sp) lw).length ≤ 4 := by simp [tshs]; omega
  generalize cntN (tshs (fun x => Xs x.sp) lw) = cs at c23 hns hcb ⊢
  have hzp := srtG_perm cmpCn cs
  have hzs := lwCn.sorted cs
  have hzn : ((srtG cmpCn cs).map Cnt.sh).Nodup := (hzp.map Cnt.sh).nodup_iff.2 hns
  generalize srtG cmpCn cs = zs at c23 hzp hzs hzn
  have hzl := hzp.length_eq
  have g0 : (((zs.length : Nat) : Int) != ((cs.length : Nat) : Int)) = false := by simp [hzl]
  repeat' (first | ((show W _ _ _ _); first | refine W.seq fun K hK => ?_ | refine W.block ?_ | ((first | refine wR ?_ | refine wD ?_ | refine W.skip ?_ | refine W.exit ?_ | refine W.ret (Post.ret ?_)); simp only [go_sem, reduceCtorEq, List.length_map, imR_len, twN_len, hwl, e1, g0]) | refine wT ?_ | refine wF ?_ | refine wC (fun h => ?_) (fun h => ?_)) | ((show AX _ _ _ _ _); (first | refine aP ?_ | refine aF ?_ | refine aL ?_ | refine aU (hnn := by simp only [go_sem, reduceCtorEq, List.length_map, imR_len, twN_len, hwl, e1, g0]) ?_ | refine aM ?_ | refine aN ?_ | refine aR ?_ | refine aV ?_); simp only [go_sem, reduceCtorEq, List.length_map, imR_len, twN_len, hwl, e1, g0]) | refine iK ?_ | refine aI2 ?_ | (refine hK _ ?_; clear hK K) | clear hK K)
  refine W.loopF (T := fun i : Nat => { t := [(4, ft (.bool false)), (6, .c (.ref 0)), (10, .c (.im (.sl 76 (zs.map cnA)))), (11, ft (.int .i64 (i : Nat)))], h := [(0, .row 76 (imR (cs.map cnA)))], nx := 1, ex := [], nt := 215 })
    (Inv := fun i => i ≤ zs.length) (μ := fun i => zs.length - i) (x0 := 0) (Fits.fit [(2, 0)] [4, 6, 10, 11] 1 rfl rfl ?_) (Nat.zero_le _) ?_
  · simp only [go_sem]
    exact Fits.rfl
  clear c23 g0 e1 hm2 hlk hlt8
  rintro i hi KL hKL
  rcases Nat.lt_or_ge i zs.length with hlt | hge
  rotate_left
  · obtain rfl : i = zs.length := by omega
    have e1 : decide ((zs.length : Int) < zs.length) = false := by simp
    clear hKL
    repeat' (first | ((show W _ _ _ _); first | refine W.seq fun K hK => ?_ | refine W.block ?_ | ((first | refine wR ?_ | refine wD ?_ | refine W.skip ?_ | refine W.exit ?_ | refine W.ret (Post.ret ?_)); simp only [go_sem, reduceCtorEq, List.length_map, e1]) | refine wT ?_ | refine wF ?_ | refine wC (fun h => ?_) (fun h => ?_)) | ((show AX _ _ _ _ _); (first | refine aP ?_ | refine aF ?_ | refine aL ?_ | refine aU (hnn := by simp only [go_sem, reduceCtorEq, List.length_map, e1]) ?_ | refine aM ?_ | refine aN ?_ | refine aR ?_ | refine aV ?_); simp only [go_sem, reduceCtorEq, List.length_map, e1]) | refine iK ?_ | refine aI2 ?_ | (refine hK _ ?_; clear hK K) | clear hK K)
  obtain ⟨z, hz, hzm, _⟩ := drop_at hlt
  have e1 : decide ((i : Int) < zs.length) = true := by simp; omega
  have hwi := w64s i (by omega)
  have hzc : z ∈ cs := hzp.mem_iff.1 hzm
  obtain ⟨⟨sz, oz, kz⟩, tz, wz⟩ := z
  have hcz := cnA_mk sz oz kz
  repeat' (first | ((show W _ _ _ _); first | refine W.seq fun K hK => ?_ | refine W.block ?_ | ((first | refine wR ?_ | refine wD ?_ | refine W.skip ?_ | refine W.exit ?_ | refine W.ret (Post.ret ?_)); simp only [go_sem, reduceCtorEq, List.length_map, e1]) | refine wT ?_ | refine wF ?_ | refine wC (fun h => ?_) (fun h => ?_)) | ((show AX _ _ _ _ _); (first | refine aP ?_ | refine aF ?_ | refine aL ?_ | refine aU (hnn := by simp only [go_sem, reduceCtorEq, List.length_map, e1]) ?_ | refine aM ?_ | refine aN ?_ | refine aR ?_ | refine aV ?_); simp only [go_sem, reduceCtorEq, List.length_map, e1]) | refine iK ?_ | refine aI2 ?_ | (refine hK _ ?_; clear hK K) | clear hK K)
  have hK2 : ∀ s1 : St, Fits ⟨Tryz.prog, w0, ok0, may, 0, pblk⟩ s1 { t := [(4, ft (.bool false)), (6, .c (.ref 0)), (10, .c (.im (.sl 76 (zs.map cnA)))), (11, ft (.int .i64 (i : Nat))), (12, ft (.bool true))], h := [(0, .row 76 (imR (cs.map cnA)))], nx := 1, ex := [], nt := 215 } → K s1 := by
    intro s1 hf
    refine hK _ (W.fits hf ?_); clear hK K
    rcases i with _ | m
    · have g1 : (((0 : Nat) : Int) == 0) = true := by simp
      repeat' (first | ((show W _ _ _ _); first | refine W.seq fun K hK => ?_ | refine W.block ?_ | ((first | refine wR ?_ | refine wD ?_ | refine W.skip ?_ | refine W.exit ?_ | refine W.ret (Post.ret ?_)); simp only [go_sem, reduceCtorEq, g1, hwi]) | refine wT ?_ | refine wF ?_ | refine wC (fun h => ?_) (fun h => ?_)) | ((show AX _ _ _ _ _); (first | refine aP ?_ | refine aF ?_ | refine aL ?_ | refine aU (hnn := by simp only [go_sem, reduceCtorEq, g1, hwi]) ?_ | refine aM ?_ | refine aN ?_ | refine aR ?_ | refine aV ?_); simp only [go_sem, reduceCtorEq, g1, hwi]) | refine iK ?_ | refine aI2 ?_ | (refine hK _ ?_; clear hK K) | clear hK K)
      refine hKL.to 1 (by omega) (by omega) (Fits.fit [(0, 0)] [4, 6, 10, 11] 1 rfl rfl ?_)
      simp only [go_sem]
      exact Fits.rfl
    · have g1 : (((m + 1 : Nat) : Int) == 0) = false := by simp; omega
      have g2 : IntKind.i64.wrap (((m + 1 : Nat) : Int) - 1) = (m : Int) := by rw [w64 (by omega) (by omega)]; omega
      obtain ⟨y, hy, hym, _⟩ := drop_at (show m < zs.length by omega)
      have hlt0 : cmpCn y ⟨.mk sz oz kz, tz, wz⟩ < 0 := by
        obtain ⟨h1, h2⟩ := List.getElem?_eq_some_iff.1 hy
        obtain ⟨h3, h4⟩ := List.getElem?_eq_some_iff.1 hz
        have h5 := List.pairwise_iff_getElem.1 hzs m (m + 1) h1 h3 (by omega)
        rw [h2, h4] at h5
        have h6 := lwCn.anti y ⟨.mk sz oz kz, tz, wz⟩
        by_cases h7 : cmpCn y ⟨.mk sz oz kz, tz, wz⟩ = 0
        · have h8 := lwCn.eq _ _ h7
          have h9 := List.pairwise_iff_getElem.1 hzn m (m + 1) (by simpa using h1) (by simpa using h3) (by omega)
          simp only [List.getElem_map, h2, h4, h8] at h9
          simp at h9
        · omega
      obtain ⟨⟨sy, oy, ky⟩, ty, wy⟩ := y
      have hcy := cnA_mk sy oy ky
      have c24 := all14 (.mk sy oy ky) (.mk sz oz kz)
      simp only [shT_mk] at c24
      simp only [cmpCn] at hlt0
      have cases3 : wy > wz ∨ (wy = wz ∧ ty > tz) ∨ (wy = wz ∧ ty = tz ∧ (Shp.mk sy oy ky).cmp (.mk sz oz kz) < 0) := by
        simp only [orL] at hlt0
        unfold cmpI at hlt0
        repeat' split at hlt0
        all_goals omega
      have q1 : decide ((wy : Int) < (wz : Int)) = decide (wy < wz) := by congr 1; simp
      have q2 : ((wy : Int) == (wz : Int)) = decide (wy = wz) := by rw [Bool.eq_iff_iff, beq_iff_eq, decide_eq_true_eq]; exact Int.ofNat_inj
      have q3 : decide ((ty : Int) < (tz : Int)) = decide (ty < tz) := by congr 1; simp
      have q4 : ((ty : Int) == (tz : Int)) = decide (ty = tz) := by rw [Bool.eq_iff_iff, beq_iff_eq, decide_eq_true_eq]; exact Int.ofNat_inj
      rcases cases3 with h | ⟨rfl, h⟩ | ⟨rfl, rfl, h⟩
      · have p1 : decide (wy < wz) = false := by simp; omega
        have p2 : decide (wy = wz) = false := by simp; omega
        rw [p1] at q1; rw [p2] at q2
        clear c24
        repeat' (first | ((show W _ _ _ _); first | refine W.seq fun K hK => ?_ | refine W.block ?_ | ((first | refine wR ?_ | refine wD ?_ | refine W.skip ?_ | refine W.exit ?_ | refine W.ret (Post.ret ?_)); simp only [go_sem, reduceCtorEq, List.getElem?_map, hy, hz, hcy, hcz, g1, g2, hwi, q1, q2, imL]) | refine wT ?_ | refine wF ?_ | refine wC (fun h => ?_) (fun h => ?_)) | ((show AX _ _ _ _ _); (first | refine aP ?_ | refine aF ?_ | refine aL ?_ | refine aU (hnn := by simp only [go_sem, reduceCtorEq, List.getElem?_map, hy, hz, hcy, hcz, g1, g2, hwi, q1, q2, imL]) ?_ | refine aM ?_ | refine aN ?_ | refine aR ?_ | refine aV ?_); simp only [go_sem, reduceCtorEq, List.getElem?_map, hy, hz, hcy, hcz, g1, g2, hwi, q1, q2, imL]) | refine iK ?_ | refine aI2 ?_ | (refine hK _ ?_; clear hK K) | clear hK K)
        refine hKL.to (m + 1 + 1) (by omega) (by omega) (Fits.fit [(0, 0)] [4, 6, 10, 11] 1 rfl rfl ?_)
        simp only [go_sem]
        exact Fits.rfl
      · have p1 : decide (wy < wy) = false := by simp
        have p2 : decide (wy = wy) = true := by simp
        have p3 : decide (ty < tz) = false := by simp; omega
        have p4 : decide (ty = tz) = false := by simp; omega
        rw [p1] at q1; rw [p2] at q2; rw [p3] at q3; rw [p4] at q4
        clear c24
        repeat' (first | ((show W _ _ _ _); first | refine W.seq fun K hK => ?_ | refine W.block ?_ | ((first | refine wR ?_ | refine wD ?_ | refine W.skip ?_ | refine W.exit ?_ | refine W.ret (Post.ret ?_)); simp only [go_sem, reduceCtorEq, List.getElem?_map, hy, hz, hcy, hcz, g1, g2, hwi, q1, q2, q3, q4, imL]) | refine wT ?_ | refine wF ?_ | refine wC (fun h => ?_) (fun h => ?_)) | ((show AX _ _ _ _ _); (first | refine aP ?_ | refine aF ?_ | refine aL ?_ | refine aU (hnn := by simp only [go_sem, reduceCtorEq, List.getElem?_map, hy, hz, hcy, hcz, g1, g2, hwi, q1, q2, q3, q4, imL]) ?_ | refine aM ?_ | refine aN ?_ | refine aR ?_ | refine aV ?_); simp only [go_sem, reduceCtorEq, List.getElem?_map, hy, hz, hcy, hcz, g1, g2, hwi, q1, q2, q3, q4, imL]) | refine iK ?_ | refine aI2 ?_ | (refine hK _ ?_; clear hK K) | clear hK K)
        refine hKL.to (m + 1 + 1) (by omega) (by omega) (Fits.fit [(0, 0)] [4, 6, 10, 11] 1 rfl rfl ?_)
        simp only [go_sem]
        exact Fits.rfl
      · have p1 : decide (wy < wy) = false := by simp
        have p2 : decide (wy = wy) = true := by simp
        have p3 : decide (ty < ty) = false := by simp
        have p4 : decide (ty = ty) = true := by simp
        have p5 : decide ((Shp.mk sy oy ky).cmp (.mk sz oz kz) ≥ 0) = false := by simp; omega
        rw [p1] at q1; rw [p2] at q2; rw [p3] at q3; rw [p4] at q4
        repeat' (first | ((show W _ _ _ _); first | refine W.seq fun K hK => ?_ | refine W.block ?_ | ((first | refine wR ?_ | refine wD ?_ | refine W.skip ?_ | refine W.exit ?_ | refine W.ret (Post.ret ?_)); simp only [go_sem, reduceCtorEq, List.getElem?_map, hy, hz, hcy, hcz, g1, g2, hwi, q1, q2, q3, q4, p5, imL]) | refine wT ?_ | refine wF ?_ | refine wC (fun h => ?_) (fun h => ?_)) | ((show AX _ _ _ _ _); (first | refine aP ?_ | refine aF ?_ | refine aL ?_ | refine aU (hnn := by simp only [go_sem, reduceCtorEq, List.getElem?_map, hy, hz, hcy, hcz, g1, g2, hwi, q1, q2, q3, q4, p5, imL]) ?_ | refine aM ?_ | refine aN ?_ | refine aR ?_ | refine aV ?_); simp only [go_sem, reduceCtorEq, List.getElem?_map, hy, hz, hcy, hcz, g1, g2, hwi, q1, q2, q3, q4, p5, imL]) | refine iK ?_ | refine aI2 ?_ | (refine hK _ ?_; clear hK K) | clear hK K)
        refine hKL.to (m + 1 + 1) (by omega) (by omega) (Fits.fit [(0, 0)] [4, 6, 10, 11] 1 rfl rfl ?_)
        simp only [go_sem]
        exact Fits.rfl
  have hfz : (cs.take cs.length).any (fun c => (Shp.mk sz oz kz).same c.sh && decide (tz = c.tr) && decide (wz = c.w)) = true := by
    rw [List.take_length, List.any_eq_true]
    exact ⟨_, hzc, by simp [same_refl]⟩
  refine W.loopF (T := fun k : Nat => { t := [(4, ft (.bool false)), (6, .c (.ref 0)), (10, .c (.im (.sl 76 (zs.map cnA)))), (11, ft (.int .i64 (i : Nat))), (12, ft (.bool ((cs.take k).any fun c => (Shp.mk sz oz kz).same c.sh && decide (tz = c.tr) && decide (wz = c.w)))), (13, ft (.int .i64 (k : Nat)))], h := [(0, .row 76 (imR (cs.map cnA)))], nx := 1, ex := [], nt := 215 })
    (Inv := fun k => k ≤ cs.length) (μ := fun k => cs.length - k) (x0 := 0) (Fits.fit [(0, 0)] [4, 6, 10, 11, 12, 13] 1 rfl rfl ?_) (Nat.zero_le _) ?_
  · simp only [go_sem, List.take_zero, List.any_nil]
    exact Fits.rfl
  rintro k hk KL2 hKL2
  rcases Nat.lt_or_ge k cs.length with hkl | hkg
  rotate_left
  · obtain rfl : k = cs.length := by omega
    rw [hfz]
    have g1 : decide ((cs.length : Int) < (cs.length : Int)) = false := by simp
    clear hK
    repeat' (first | ((show W _ _ _ _); first | refine W.seq fun K hK => ?_ | refine W.block ?_ | ((first | refine wR ?_ | refine wD ?_ | refine W.skip ?_ | refine W.exit ?_ | refine W.ret (Post.ret ?_)); simp only [go_sem, reduceCtorEq, List.length_map, imR_len, g1]) | refine wT ?_ | refine wF ?_ | refine wC (fun h => ?_) (fun h => ?_)) | ((show AX _ _ _ _ _); (first | refine aP ?_ | refine aF ?_ | refine aL ?_ | refine aU (hnn := by simp only [go_sem, reduceCtorEq, List.length_map, imR_len, g1]) ?_ | refine aM ?_ | refine aN ?_ | refine aR ?_ | refine aV ?_); simp only [go_sem, reduceCtorEq, List.length_map, imR_len, g1]) | refine iK ?_ | refine aI2 ?_ | (refine hK _ ?_; clear hK K) | clear hK K)
    refine hK2 _ (Fits.fit [(0, 0)] [4, 6, 10, 11, 12] 1 rfl rfl ?_)
    simp only [go_sem]
    exact Fits.rfl
  obtain ⟨⟨⟨s', o', ks'⟩, tc, wc⟩, hc, hcm, _⟩ := drop_at hkl
  have g1 : decide ((k : Int) < (cs.length : Int)) = true := by simp; exact hkl
  have g2 : decide (k < cs.length) = true := by simp; exact hkl
  have hwk := w64s k (by omega)
  have hcA := cnA_mk s' o' ks'
  have c11 := all11 (.mk sz oz kz) (.mk s' o' ks')
  simp only [shT_mk] at c11
  have hstep : ((cs.take (k + 1)).any fun c => (Shp.mk sz oz kz).same c.sh && decide (tz = c.tr) && decide (wz = c.w)) = (((cs.take k).any fun c => (Shp.mk sz oz kz).same c.sh && decide (tz = c.tr) && decide (wz = c.w)) || ((Shp.mk sz oz kz).same (.mk s' o' ks') && decide (tz = tc) && decide (wz = wc))) := by
    rw [List.take_add_one, hc, List.any_append]; simp
  have q1 : ((tz : Int) == (tc : Int)) = decide (tz = tc) := by rw [Bool.eq_iff_iff, beq_iff_eq, decide_eq_true_eq]; exact Int.ofNat_inj
  have q2 : ((wz : Int) == (wc : Int)) = decide (wz = wc) := by rw [Bool.eq_iff_iff, beq_iff_eq, decide_eq_true_eq]; exact Int.ofNat_inj
  obtain ⟨v1, hv1⟩ : ∃ v, v = ((cs.take (k + 1)).any fun c => (Shp.mk sz oz kz).same c.sh && decide (tz = c.tr) && decide (wz = c.w)) := ⟨_, rfl⟩
  rw [← hv1] at hstep
  generalize ((cs.take k).any fun c => (Shp.mk sz oz kz).same c.sh && decide (tz = c.tr) && decide (wz = c.w)) = v0 at hstep ⊢
  clear hK hK2 hfz
  cases v0
  rotate_left
  · rw [Bool.true_or] at hstep
    clear c11
    repeat' (first | ((show W _ _ _ _); first | refine W.seq fun K hK => ?_ | refine W.block ?_ | ((first | refine wR ?_ | refine wD ?_ | refine W.skip ?_ | refine W.exit ?_ | refine W.ret (Post.ret ?_)); simp only [go_sem, reduceCtorEq, List.getElem?_map, List.length_map, imR_len, g1, g2, hc, hz, hcA, hcz, imL, hwk]) | refine wT ?_ | refine wF ?_ | refine wC (fun h => ?_) (fun h => ?_)) | ((show AX _ _ _ _ _); (first | refine aP ?_ | refine aF ?_ | refine aL ?_ | refine aU (hnn := by simp only [go_sem, reduceCtorEq, List.getElem?_map, List.length_map, imR_len, g1, g2, hc, hz, hcA, hcz, imL, hwk]) ?_ | refine aM ?_ | refine aN ?_ | refine aR ?_ | refine aV ?_); simp only [go_sem, reduceCtorEq, List.getElem?_map, List.length_map, imR_len, g1, g2, hc, hz, hcA, hcz, imL, hwk]) | refine iK ?_ | refine aI2 ?_ | (refine hK _ ?_; clear hK K) | clear hK K)
    refine hKL2.to (k + 1) (by omega) (by omega) (Fits.fit [(0, 0)] [4, 6, 10, 11, 12, 13] 1 rfl rfl ?_)
    simp only [go_sem, ← hv1, hstep]
    exact Fits.rfl
  rw [Bool.false_or] at hstep
  cases h1 : (Shp.mk sz oz kz).same (.mk s' o' ks')
  · rw [h1] at c11 hstep
    repeat' (first | ((show W _ _ _ _); first | refine W.seq fun K hK => ?_ | refine W.block ?_ | ((first | refine wR ?_ | refine wD ?_ | refine W.skip ?_ | refine W.exit ?_ | refine W.ret (Post.ret ?_)); simp only [go_sem, reduceCtorEq, List.getElem?_map, List.length_map, imR_len, g1, g2, hc, hz, hcA, hcz, imL, hwk]) | refine wT ?_ | refine wF ?_ | refine wC (fun h => ?_) (fun h => ?_)) | ((show AX _ _ _ _ _); (first | refine aP ?_ | refine aF ?_ | refine aL ?_ | refine aU (hnn := by simp only [go_sem, reduceCtorEq, List.getElem?_map, List.length_map, imR_len, g1, g2, hc, hz, hcA, hcz, imL, hwk]) ?_ | refine aM ?_ | refine aN ?_ | refine aR ?_ | refine aV ?_); simp only [go_sem, reduceCtorEq, List.getElem?_map, List.length_map, imR_len, g1, g2, hc, hz, hcA, hcz, imL, hwk]) | refine iK ?_ | refine aI2 ?_ | (refine hK _ ?_; clear hK K) | clear hK K)
    refine hKL2.to (k + 1) (by omega) (by omega) (Fits.fit [(0, 0)] [4, 6, 10, 11, 12, 13] 1 rfl rfl ?_)
    simp only [go_sem, ← hv1, hstep, Bool.false_and]
    exact Fits.rfl
  rw [h1, Bool.true_and] at hstep
  rw [h1] at c11
  cases h2 : decide (tz = tc)
  · rw [h2] at q1 hstep
    repeat' (first | ((show W _ _ _ _); first | refine W.seq fun K hK => ?_ | refine W.block ?_ | ((first | refine wR ?_ | refine wD ?_ | refine W.skip ?_ | refine W.exit ?_ | refine W.ret (Post.ret ?_)); simp only [go_sem, reduceCtorEq, List.getElem?_map, List.length_map, imR_len, g1, g2, hc, hz, hcA, hcz, imL, hwk, q1]) | refine wT ?_ | refine wF ?_ | refine wC (fun h => ?_) (fun h => ?_)) | ((show AX _ _ _ _ _); (first | refine aP ?_ | refine aF ?_ | refine aL ?_ | refine aU (hnn := by simp only [go_sem, reduceCtorEq, List.getElem?_map, List.length_map, imR_len, g1, g2, hc, hz, hcA, hcz, imL, hwk, q1]) ?_ | refine aM ?_ | refine aN ?_ | refine aR ?_ | refine aV ?_); simp only [go_sem, reduceCtorEq, List.getElem?_map, List.length_map, imR_len, g1, g2, hc, hz, hcA, hcz, imL, hwk, q1]) | refine iK ?_ | refine aI2 ?_ | (refine hK _ ?_; clear hK K) | clear hK K)
    refine hKL2.to (k + 1) (by omega) (by omega) (Fits.fit [(0, 0)] [4, 6, 10, 11, 12, 13] 1 rfl rfl ?_)
    simp only [go_sem, ← hv1, hstep, Bool.false_and]
    exact Fits.rfl
  rw [h2, Bool.true_and] at hstep
  rw [h2] at q1
  cases h3 : decide (wz = wc)
  all_goals
    rw [h3] at q2 hstep
    repeat' (first | ((show W _ _ _ _); first | refine W.seq fun K hK => ?_ | refine W.block ?_ | ((first | refine wR ?_ | refine wD ?_ | refine W.skip ?_ | refine W.exit ?_ | refine W.ret (Post.ret ?_)); simp only [go_sem, reduceCtorEq, List.getElem?_map, List.length_map, imR_len, g1, g2, hc, hz, hcA, hcz, imL, hwk, q1, q2]) | refine wT ?_ | refine wF ?_ | refine wC (fun h => ?_) (fun h => ?_)) | ((show AX _ _ _ _ _); (first | refine aP ?_ | refine aF ?_ | refine aL ?_ | refine aU (hnn := by simp only [go_sem, reduceCtorEq, List.getElem?_map, List.length_map, imR_len, g1, g2, hc, hz, hcA, hcz, imL, hwk, q1, q2]) ?_ | refine aM ?_ | refine aN ?_ | refine aR ?_ | refine aV ?_); simp only [go_sem, reduceCtorEq, List.getElem?_map, List.length_map, imR_len, g1, g2, hc, hz, hcA, hcz, imL, hwk, q1, q2]) | refine iK ?_ | refine aI2 ?_ | (refine hK _ ?_; clear hK K) | clear hK K)
    refine hKL2.to (k + 1) (by omega) (by omega) (Fits.fit [(0, 0)] [4, 6, 10, 11, 12, 13] 1 rfl rfl ?_)
    simp only [go_sem, ← hv1, hstep]
    exact Fits.rfl
end Go.Proofs.YtegcmciglakicaaGreat
